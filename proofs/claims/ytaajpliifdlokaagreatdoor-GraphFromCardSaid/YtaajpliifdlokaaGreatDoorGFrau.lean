/- slices.SortFunc at an own row of elements of several cells, with a comparator that reads memory and makes memory of its own. No program in sight but the library's. Links are sorted: slices.SortFunc at links that are in order. Contracts of slices.Clone at cells, columns, operations, lists of operations, numbers. Plain: a stable insertion sort step by step; rows as lists of cells; tables with few rows. Contract of explain.rows: the numbers of the rows. Contracts of explain.row and slices.Equal at cells. Contracts of slices.IndexFunc and slices.ContainsFunc at numbers, a closure each. Contracts of explain.distinct and its closure. Contract of explain.distinct. Contract of explain.project. Plain: a sorted list of texts without repetitions is the set of its texts; two sets with the same texts are one. No program in sight. DERIVED: THE SHELF's CONTRACTS AT THIS DUMP, IN PLAIN WORDS (tools/lay-plain.mjs out of 'YtaajpliifdlokaaGreatDoorShEL.lean', which tools/lay-shelf.mjs wrote): THE SAME DECLARATIONS UNDER THE SAME NAMES: 'import', 'namespace', 'open', 'def', 'theorem' AND NOTHING ELSE: no command of the shelf's: FOR A HAND-IN. Each laying: the table of numbers ('.._ren') and one theorem, a field a fact of the dump's own or the kernel's comparison; each contract: ONE APPLICATION. Sets of texts as maps; slices.Sorted(maps.Keys(m)) at such a set. A map with numbers as keys that is known whole: laid entry by entry, asked. No program in sight. Contract of explain.actions: the map of what operations do. Contract of lists.Own: a copy of a table that shares nothing. Contract of explain.pick: a table with some of its rows, in new memory. Contracts of explain.keep, of its closure, and of slices.DeleteFunc at this closure. Contract of explain.keep. Contract of explain.actions$1: distinct rows. Contract of explain.columns. Contracts of cmp.Compare at texts, table.CompareCells, and the closure of explain.ascending. Contracts of slices.SortStableFunc at few numbers, with the closure of explain.ascending. Contract of explain.ascending (tables of few rows). Contract of explain.does: an operation that can be done, on a table of few rows. Contract of explain.can at operations that can be done. Contract of explain.Run at operations that can be done. Contract of explain.filters. Contract of explain.ends. Contract of explain.Alike: the same columns. -/
import Derived.Shelf.SlSortCmp.WholeK
import Derived.Test.YtaajpliifdlokaaGreatDoorGFrat
import Derived.Test.YtaajpliifdlokaaGreatDoorGFrah
import Derived.Shelf.SlSortCmp.NoneTotal
import Derived.Test.YtaajpliifdlokaaGreatDoorGFras
import Derived.Test.YtaajpliifdlokaaGreatDoorGFrar
import Derived.Deep.OwnRows
import Derived.Test.YtaajpliifdlokaaGreatDoorGFrap
import Derived.Deep.RegionHeld3
import Derived.Test.YtaajpliifdlokaaGreatDoorGFraq
import Derived.Lib.SlicesCompact
import Derived.Sort.EncStr
import Derived.Sort.Walk0
import Derived.Test.YtaajpliifdlokaaGreatDoorGFrag
import Derived.Shelf.SlIter.Nil
import Derived.Shelf.SortM.Plain
import Derived.Shelf.SortM.SortNone
import Derived.Shelf.Strconv.Clone
import Derived.Ground.GgzProg
import Derived.Ground.SlgmProg
import Derived.Test.YtaajpliifdlokaaGreatDoorProg
import Derived.Maps.OwnSet
import Derived.Maps.GroupsBeside
import Derived.Test.YtaajpliifdlokaaGreatDoorGFrao
import Derived.ChangeMaps4
import Derived.MapKept
import Derived.Carry
import Derived.Laws.OwnMore
import Derived.Lib.LazyBuf
import Derived.Lib.SliceRun
import Derived.Deep.RegionLawGrows
import Derived.Deep.QuietTactic
import Derived.Laws.EntriesVeiled
set_option linter.unusedVariables false
set_option linter.unusedSimpArgs false
namespace Go.Proofs.YtaajpliifdlokaaGreatDoor
open Go.RowKit Go.Shelf
structure Bar (w : World) (blk : Nat) (W : World) : Prop where
  os : W.os = w.os
  tape : W.tape = w.tape
  output : W.output = w.output
  size : w.heap.size ≤ W.heap.size
  block : ∀ k, k < w.heap.size → k ≠ blk → W.heap[k]? = w.heap[k]?
theorem Bar.cell {w W : World} {blk : Nat} (h : Bar w blk W) {p : Addr} (h1 : p.block < w.heap.size) (h2 : p.block ≠ blk) : W.cell? p = w.cell? p :=
  World.cell?_of_block (h.block _ h1 h2)
theorem Bar.below {w W : World} {blk : Nat} (h : Bar w blk W) {B : Nat} (h1 : B ≤ w.heap.size) (h2 : B ≤ blk) : Below B w W :=
  ⟨h.os, h.tape, h.output, h.size, fun k hk => h.block k (by omega) (by omega)⟩
section
variable {α : Type}
def encF (enc : α → List Value) (d : α) (ds : List α) (i j : Nat) : Value := (enc (ds.getD i d)).getD j (.bool false)
theorem flatG [Inhabited α] (enc : α → List Value) (k : Nat) (d : α) (D : Array α) {j : Nat} (hj : j < D.size * k) (he : ∀ i, i < D.size → ∀ m, m < k → (enc D[i]!)[m]! = encF enc d D.toList i m) :
    (Go.Sort.flatK enc k D)[j]! = encF enc d D.toList (j / k) (j % k) := by
  rw [Go.Sort.get_flatK _ _ _ _ hj]
  have k0 : 0 < k := by rcases Nat.eq_zero_or_pos k with h | h
                        · subst h; simp at hj
                        · exact h
  exact he _ (Nat.div_lt_of_lt_mul (by rw [Nat.mul_comm]; exact hj)) _ (Nat.mod_lt _ k0)
theorem encF_at [Inhabited α] (enc : α → List Value) (k : Nat) (hk : ∀ x, (enc x).length = k) (d : α) (D : Array α) (i : Nat) (hi : i < D.size) (m : Nat) (hm : m < k) : (enc D[i]!)[m]! = encF enc d D.toList i m := by
  have h1 : D.toList.getD i d = D[i]! := by rw [getElem!_pos D i hi]; simp [List.getD, hi]
  unfold encF
  rw [h1]
  have h2 : m < (enc D[i]!).length := by rw [hk]; exact hm
  rw [getElem!_pos _ m h2]
  simp [List.getD, h2]
theorem flatG_list [Inhabited α] (enc : α → List Value) (k : Nat) (hk : ∀ x, (enc x).length = k) (d : α) (D : Array α) : (Go.Sort.flatK enc k D).toList = flatK k D.size (encF enc d D.toList) := by
  apply List.ext_getElem?
  intro j
  by_cases hj : j < D.size * k
  · have k0 : 0 < k := by rcases Nat.eq_zero_or_pos k with h | h
                          · subst h; simp at hj
                          · exact h
    have h2 := flatK_at (f := encF enc d D.toList) (k := k) (i := j / k) (j := j % k) (Nat.div_lt_of_lt_mul (by rw [Nat.mul_comm]; exact hj)) (Nat.mod_lt _ k0)
    rw [Nat.div_add_mod' j k] at h2
    rw [h2, Array.getElem?_toList, ← flatG enc k d D hj (fun i hi m hm => encF_at enc k hk d D i hi m hm), getElem!_pos _ _ (by rw [Go.Sort.size_flatK]; exact hj), Array.getElem?_eq_getElem]
  · rw [List.getElem?_eq_none (by simp; omega), List.getElem?_eq_none (by rw [flatK_len]; omega)]
theorem put_takeG (F c : Array Value) (h : F.size ≤ c.size) : (Go.Sort.putCells id 0 F c).toList.take F.size = F.toList := by
  apply List.ext_getElem?
  intro j
  by_cases hj : j < F.size
  · rw [List.getElem?_take_of_lt hj, Array.getElem?_toList, Array.getElem?_toList]
    have hc : j < c.size := by omega
    simp [Go.Sort.putCells, hj, hc]
  · rw [List.getElem?_eq_none (by simp; omega), List.getElem?_eq_none (by simp; omega)]
theorem sorted_heapG [Inhabited α] (enc : α → List Value) (k : Nat) {w : World} {blk m : Nat} {c : Array Value} {e : TypeId} (hb : w.heap[blk]? = some (.cells c e (0, 0))) (d : Array α) (os : Array Obj) :
    (Go.Proofs.sortWorldK enc k w blk 0 m d os).heap[blk]? = some (.cells (Go.Sort.putCells id 0 (Go.Sort.flatK enc k d) c) e (0, 0)) := by
  have hg : blk < w.heap.size := (Array.getElem?_eq_some_iff.1 hb).1
  unfold Go.Proofs.sortWorldK Go.Sort.putRowK
  rw [Go.Sort.heap_grow_old _ _ (by simpa using hg)]
  simp [Go.Sort.putRow, Go.Sort.mapBlock, Go.Sort.ahead, Array.getElem?_modify, hb, Go.Sort.onCells]
theorem sorted_barG [Inhabited α] (enc : α → List Value) (k : Nat) (w : World) (blk m : Nat) (d : Array α) (os : Array Obj) : Bar w blk (Go.Proofs.sortWorldK enc k w blk 0 m d os) := by
  refine ⟨rfl, rfl, rfl, by simp [Go.Proofs.sortWorldK, Go.Sort.putRowK], fun j hj hne => ?_⟩
  unfold Go.Proofs.sortWorldK Go.Sort.putRowK
  rw [Go.Sort.heap_grow_old _ _ (by simpa using hj)]
  have : blk ≠ j := fun e => hne e.symm
  simp [Go.Sort.putRow, Go.Sort.mapBlock, Go.Sort.ahead, Array.getElem?_modify, this]
theorem sort_row {P : Program} {ρ : Ren} (L : SlLaysF0.n6 P ρ) (k : Nat) (aE : ∀ w, (isAgg (ρ.t 24)).run P w = .ok true w) (zE : ∀ w, (Go.sizeOf (ρ.t 24)).run P w = .ok k w) (enc : α → List Value) (hk : ∀ x, (enc x).length = k) (h1 : ∀ x, ∀ v ∈ enc x, v.oneCell' = true)
    (cf : α → α → Int) (hO : Go.Sort.SWO (Go.Proofs.ltOf cf)) (g : Nat) (eg : ∀ args w, (callFunc g args).run P w = .ok (.enter g args) w) (d0 : α) (ds : List α) (base blk n cap : Nat) (e : TypeId) (w : World) (hn : ds.length = n) (hp : 0 < n) (hm : n ≤ 1048576)
    (hrow : w.ownsRow base e k (.slice (some ⟨blk, 0, none⟩) n cap) n (flatK k n (encF enc d0 ds)))
    (hcmp : ∀ W, Bar w blk W → ∀ x ∈ ds, ∀ y ∈ ds, Calls P g #[.agg (enc x).toArray, .agg (enc y).toArray] W (fun e w' => e = .returned (.int .i64 (cf x y)) ∧ Below W.heap.size W w')) :
    Calls P (ρ.f 6) #[.slice (some ⟨blk, 0, none⟩) n cap, .func (.func g) #[] #[]] w fun e' w' =>
      e' = .returned (.tuple #[]) ∧ ∃ ds', ds'.Perm ds ∧ ds'.Pairwise (fun a b => Go.Proofs.ltOf cf b a = false) ∧ w'.ownsRow base e k (.slice (some ⟨blk, 0, none⟩) n cap) n (flatK k n (encF enc d0 ds')) ∧ Bar w blk w' := by
  subst hn
  have hne : ds ≠ [] := by intro h; subst h; simp at hp
  let β := {x // x ∈ ds}
  haveI : Inhabited β := ⟨⟨ds.head hne, List.head_mem hne⟩⟩
  let enc' : β → List Value := fun x => enc x.1
  let cf' : β → β → Int := fun x y => cf x.1 y.1
  let A : Array β := ds.attach.toArray
  have hAs : A.size = ds.length := by show ds.attach.toArray.size = _; rw [List.size_toArray, List.length_attach]
  have hAm : A.toList.map (·.1) = ds := by show ds.attach.toArray.toList.map _ = _; exact List.attach_map_subtype_val ds
  have hk' : ∀ x, (enc' x).length = k := fun x => hk x.1
  have hO' : Go.Sort.SWO (Go.Proofs.ltOf cf') := ⟨fun x => hO.irrefl x.1, fun x y z => hO.trans x.1 y.1 z.1, fun x y z => hO.ntrans x.1 y.1 z.1⟩
  have hff : ∀ D : Array β, D.size = ds.length → flatK k ds.length (encF enc' ⟨ds.head hne, List.head_mem hne⟩ D.toList) = flatK k ds.length (encF enc d0 (D.toList.map (·.1))) := fun D hD => by
    apply List.ext_getElem?
    intro j
    by_cases hj : j < ds.length * k
    · have k0 : 0 < k := by rcases Nat.eq_zero_or_pos k with h | h
                            · subst h; simp at hj
                            · exact h
      have hd : j / k < ds.length := Nat.div_lt_of_lt_mul (by rw [Nat.mul_comm]; exact hj)
      have a1 := flatK_at (f := encF enc' ⟨ds.head hne, List.head_mem hne⟩ D.toList) (k := k) (i := j / k) (j := j % k) hd (Nat.mod_lt _ k0)
      have a2 := flatK_at (f := encF enc d0 (D.toList.map (·.1))) (k := k) (i := j / k) (j := j % k) hd (Nat.mod_lt _ k0)
      rw [Nat.div_add_mod' j k] at a1 a2
      rw [a1, a2]
      unfold encF
      have hd' : j / k < D.toList.length := by simpa [hD] using hd
      simp [List.getD, enc', hD, hd]
    · rw [List.getElem?_eq_none (by rw [flatK_len]; omega), List.getElem?_eq_none (by rw [flatK_len]; omega)]
  have eg' := eg
  rcases hrow.2 with ⟨e1, -⟩ | ⟨g1, cap1, cur, e1, hb, hheap, hcn, hcm, hsz, htake⟩
  · cases e1
  · cases e1
    have hblk : blk < w.heap.size := (Array.getElem?_eq_some_iff.1 hheap).1
    have hH : Go.Sort.HoldsK enc' k w blk 0 A := by
      intro j hj
      rw [Go.Sort.size_flatK, hAs] at hj
      have k0 : 0 < k := by rcases Nat.eq_zero_or_pos k with h | h
                            · subst h; simp at hj
                            · exact h
      have hd : j / k < ds.length := Nat.div_lt_of_lt_mul (by rw [Nat.mul_comm]; exact hj)
      rw [Nat.zero_add, flatG enc' k ⟨ds.head hne, List.head_mem hne⟩ A (by rw [hAs]; exact hj) (fun i hi m hm => encF_at enc' k hk' _ A i hi m hm)]
      have h3 := flatK_at (f := encF enc d0 ds) (k := k) (i := j / k) (j := j % k) hd (Nat.mod_lt _ k0)
      have h4 := flatK_at (f := encF enc' ⟨ds.head hne, List.head_mem hne⟩ A.toList) (k := k) (i := j / k) (j := j % k) hd (Nat.mod_lt _ k0)
      rw [hff A hAs, hAm, h3] at h4
      rw [← Option.some.inj h4]
      rw [Nat.div_add_mod' j k, ← htake, List.getElem?_take_of_lt hj, Array.getElem?_toList] at h3
      refine ⟨?_, ?_⟩
      · show World.cell? w ⟨blk, j, none⟩ = some _
        simp only [World.cell?, hheap, id]
        simp [h3]
      · simp [World.frozen?, hheap]
    have hcl : Go.Proofs.CmpLays P g #[] enc' k cf' blk 0 A.size w := fun m os dk hdk x y =>
      Dr.calls_grows (hcmp _ (sorted_barG enc' k w blk m dk os) x.1 x.2 y.1 y.2)
    have hcon := AnyQ.slices_SortFunc L k aE zE enc' hk' (fun x v hv => h1 x.1 v hv) cf' hO' g #[] blk 0 cap A w eg' hcl hH hblk (by rw [hAs]; omega)
    rw [hAs] at hcon
    refine hcon.mono ?_
    rintro e' w' ⟨he, D, m, os, hp1, hs, rfl⟩
    have hDs : D.size = ds.length := hp1.1.trans hAs
    have hperm : D.toList.Perm A.toList := by
      have h1 := hp1.2.2
      rw [Array.extract_eq_self_of_le (by omega), Array.extract_eq_self_of_le (by omega)] at h1
      exact h1
    refine ⟨he, D.toList.map (·.1), ?_, ?_, ?_, sorted_barG enc' k w blk m D os⟩
    · have := hperm.map (fun x : β => x.1)
      rwa [hAm] at this
    · rw [List.pairwise_iff_getElem]
      intro i j hi hj hij
      have hi' : i < D.size := by simpa using hi
      have hj' : j < D.size := by simpa using hj
      have := hs i j (Nat.zero_le _) hij (by omega)
      rw [getElem!_pos D i hi', getElem!_pos D j hj'] at this
      simpa [Go.Proofs.ltOf, cf'] using this
    · refine ⟨flatK_len _ _ _, .inr ⟨blk, cap, _, rfl, hb, sorted_heapG enc' k hheap D os, hcn, hcm, by simp [Go.Sort.putCells, hsz], ?_⟩⟩
      have h1 := put_takeG (Go.Sort.flatK enc' k D) cur (by rw [Go.Sort.size_flatK, hDs, hsz]; exact Nat.mul_le_mul_right _ hcn)
      rw [Go.Sort.size_flatK, hDs] at h1
      rw [h1, flatG_list enc' k hk' ⟨ds.head hne, List.head_mem hne⟩ D, hDs, hff D hDs]
end
end Go.Proofs.YtaajpliifdlokaaGreatDoor

namespace Go.Proofs.YtaajpliifdlokaaGreatDoor
open Go.RowKit Go.Shelf
def Kx := Int × Int × (Option Addr × Nat × Nat)
instance : Inhabited Kx := ⟨((0 : Int), (0 : Int), (none : Option Addr), (0 : Nat), (0 : Nat))⟩
def encK (x : Kx) : List Value := [.int .i64 x.1, .int .i64 x.2.1, .slice x.2.2.1 x.2.2.2.1 x.2.2.2.2]
def cfK (x y : Kx) : Int := cmpI x.2.1 y.2.1
theorem perm_same {α : Type} (key : α → Int) : ∀ {xs ys : List α}, ys.Perm xs → xs.Pairwise (fun a b => key a < key b) → ys.Pairwise (fun a b => key a ≤ key b) → ys = xs
  | [], ys, h, _, _ => List.Perm.eq_nil h
  | x :: r, [], h, _, _ => by have := h.length_eq; simp at this
  | x :: r, y :: s, h, hx, hy => by
    obtain ⟨x1, x2⟩ := List.pairwise_cons.1 hx
    obtain ⟨y1, y2⟩ := List.pairwise_cons.1 hy
    have hyx : y ∈ x :: r := h.mem_iff.1 List.mem_cons_self
    have hxy : x ∈ y :: s := h.mem_iff.2 List.mem_cons_self
    have e : y = x := by
      rcases List.mem_cons.1 hyx with h1 | h1
      · exact h1
      · rcases List.mem_cons.1 hxy with h2 | h2
        · exact h2.symm
        · have a1 := x1 y h1
          have a2 := y1 x h2
          omega
    subst e
    rw [perm_same key (List.Perm.cons_inv h) x2 y2]
def partsOf : Value → Option Addr × Nat × Nat
  | .slice a n c => (a, n, c)
  | _ => (none, 0, 0)
def kOf (xs : List Lk) (uv : Nat → Value) (i : Nat) : Kx := ((xs.getD i Lk.z).src, (xs.getD i Lk.z).dst, partsOf (uv i))
def kxs (xs : List Lk) (uv : Nat → Value) : List Kx := (List.range xs.length).map (kOf xs uv)
def SortedLk (w : World) (base : Nat) (v : Value) (xs : List Lk) (e : Ending) (w' : World) : Prop :=
  e = .returned (.tuple #[]) ∧ LkSt w' base 76 v xs ∧ Below base w w'
end Go.Proofs.YtaajpliifdlokaaGreatDoor

namespace Go.Proofs.YtaajpliifdlokaaGreatDoor
open Go.RowKit
def GivesF (w : World) (e : TypeId) (k n : Nat) (f : Nat → Nat → Value) (en : Ending) (w' : World) : Prop :=
  ∃ a c, en = .returned (.slice a n c) ∧ w'.ownsRow w.heap.size e k (.slice a n c) n (flatK k n f) ∧ Below w.heap.size w w'
theorem wpList_append_none {P : Program} {w : World} {ops : Array Oper} {rest : List Oper} {o : Oper} {a : Act} {Q : Exit → Act → World → Prop} (hgd : o.guard = none) (s x : Operand) (t tx : TypeId)
    (ho : o.op = .call { callee := .builtin .append, args := #[s, x], argTypes := #[t, tx] }) (e e' : TypeId) (i : TypeInfo) (ht : P.underlying t = some (.slice e)) (hk : P.underlying tx = some (.slice e')) (hi : P.info? e = some i)
    (base : Option Addr) (n cap : Nat) (hs : a.eval s = .slice base n cap) (hn : n ≤ cap) (ao : Option Addr) (m c : Nat) (hm : m = 0) (hx : a.eval x = .slice ao m c)
    (h : wpList P ops Q rest (a.put o.dst (.slice base n cap)) w) : wpList P ops Q (o :: rest) a w := by
  subst hm
  refine wpList_plain hgd fun _ hK => ?_
  have hr : (Builtin.append_ #[t, tx] o.type #[.slice base n cap, .slice ao 0 c]).run P w = .ok (.slice base n cap) w := by
    rw [append_types w ht hk]; exact run_append_empty w ht hi base n cap c hn ao
  unfold Oper.wp execOp
  simp only [ho, resolve, invoke, builtin, Sem.run_bind, Sem.run_pure, Result.andThen_ok, List.map_toArray, List.map_cons, List.map_nil, hs, hx, hr]
  exact hK _ _ h
end Go.Proofs.YtaajpliifdlokaaGreatDoor

namespace Go.Proofs.YtaajpliifdlokaaGreatDoor
open Go.RowKit
def insL (out : List Nat) (j r : Nat) (rest : List Nat) : List Nat := out.take j ++ r :: (out.drop j ++ rest)
def rowC (xs : List Co) (i : Nat) : List Cl := xs.map fun c => c.cells.getD i Cl.z
def Few (xs : List Co) : Prop := ∃ n, n ≤ 19 ∧ ColsV xs n
theorem few_do {xs : List Co} {o : Po} (h : Few xs) (hc : canL xs.length o = true) : Few (doL xs o) := by
  obtain ⟨n, hn, hx⟩ := h
  unfold doL
  by_cases h3 : o.kind = 3
  · rw [if_pos h3]
    have hc2 : o.cols.all (thereL xs.length) = true := by
      unfold canL at hc
      rw [if_neg (by omega), if_neg (by omega), if_pos h3] at hc
      simp only [Bool.and_eq_true] at hc
      exact hc.1
    exact ⟨n, hn, proj_ok hx hc2⟩
  · rw [if_neg h3]
    obtain ⟨r1, r2⟩ := rowsL_ok xs o (rowsC xs)
    rcases Nat.eq_zero_or_pos xs.length with hz | hp
    · have e : xs = [] := List.eq_nil_of_length_eq_zero hz
      exact ⟨0, by omega, fun x hx => by simp [selL, e] at hx⟩
    · have hrc := rowsC_of hx hp
      rw [hrc] at r1 r2 ⊢
      exact ⟨_, by omega, sel_ok hx r2⟩
theorem Few.rows {xs : List Co} (h : Few xs) : rowsC xs ≤ 19 := by
  obtain ⟨n, hn, hx⟩ := h
  rcases Nat.eq_zero_or_pos xs.length with hz | hp
  · have e : xs = [] := List.eq_nil_of_length_eq_zero hz
    subst e
    simp [rowsC, Co.z]
  · rw [rowsC_of hx hp]
    exact hn
theorem Few.cells {xs : List Co} (h : Few xs) : ∀ x ∈ xs, x.cells.length = rowsC xs := by
  obtain ⟨n, hn, hx⟩ := h
  intro x hxx
  rw [rowsC_of hx (List.length_pos_of_mem hxx)]
  exact (hx x hxx).2.1
theorem Few.tab {t : Ta} {ys : List Co} (ht : TabV t) (h : Few ys) (hl : ys.length ≤ 64) : TabV ⟨t.id, t.name, ys⟩ := by
  obtain ⟨n, hn, hx⟩ := h
  obtain ⟨h0, h1, h2, -, -⟩ := ht
  exact ⟨h0, h1, h2, hl, n, by omega, hx⟩
end Go.Proofs.YtaajpliifdlokaaGreatDoor

namespace Go.Proofs.YtaajpliifdlokaaGreatDoor
open Go.RowKit
def Nums (w : World) (b : Nat) (L : List Nat) : Prop := w.rowIs b 3 L.length (natF L)
theorem Nums.slice {w : World} {b : Nat} {L : List Nat} (h : Nums w b L) (hl : L.length ≤ maxLen) {k : Nat} (hk : k ≤ L.length) {S : Nat → Prop} (hS : S b) : InK 1 w S (.slice (some ⟨b, 0, none⟩) k L.length) k (fun i _ => natF L i) :=
  ⟨_, _, rfl, hk, hl, fun _ => ⟨b, 0, rfl, hS, fun i hi j hj => by
    obtain rfl : j = 0 := by omega
    rw [show 0 + i * 1 + 0 = i by omega]
    exact World.rowIs.cell h (by omega)⟩⟩
theorem Nums.later {w w' : World} {b : Nat} {L : List Nat} (h : Nums w b L) (e : w'.heap[b]? = w.heap[b]?) : Nums w' b L := World.rowIs.of_block h e
theorem Nums.put {w : World} {b : Nat} {L : List Nat} (h : Nums w b L) (i x : Nat) : Nums (w.setCell ⟨b, i, none⟩ (.int .i64 (x : Int))) b (L.set i x) := by
  unfold Nums at *
  rw [List.length_set]
  refine (World.rowIs.set h i _).congr fun j hj => ?_
  unfold natF
  by_cases e : j = i
  · subst e
    simp [List.getD, hj]
  · rw [if_neg e]
    simp [List.getD, List.getElem?_set, Ne.symm e]
end Go.Proofs.YtaajpliifdlokaaGreatDoor

namespace Go.Proofs.YtaajpliifdlokaaGreatDoor
open Go.RowKit
end Go.Proofs.YtaajpliifdlokaaGreatDoor

namespace Go.Proofs.YtaajpliifdlokaaGreatDoor
open Go.RowKit
def Fst (p : Nat → Bool) (n : Nat) (r : Int) : Prop := (r = -1 ∧ ∀ j, j < n → p j = false) ∨ ∃ i : Nat, r = (i : Int) ∧ i < n ∧ p i = true ∧ ∀ j, j < i → p j = false
def IntsAt (w : World) (B : Nat) (v : Value) (n : Nat) (g : Nat → Int) : Prop := InK 1 w (· < B) v n (fun i _ => .int .i64 (g i))
end Go.Proofs.YtaajpliifdlokaaGreatDoor

namespace Go.Proofs.YtaajpliifdlokaaGreatDoor
open Go.RowKit
def GotRow (w : World) (L : Nat) (R : List Cl) (e : Ending) (w' : World) : Prop :=
  ∃ a c, e = .returned (.slice a L c) ∧ (∀ W, Below w'.heap.size w' W → RdCl W (· < W.heap.size) (.slice a L c) R) ∧ Below w.heap.size w w'
end Go.Proofs.YtaajpliifdlokaaGreatDoor

namespace Go.Proofs.YtaajpliifdlokaaGreatDoor
open Go.RowKit
def opDist0 : Po := ⟨4, 0, ⟨#[]⟩, []⟩
def GotNums (w : World) (L : List Nat) (e : Ending) (w' : World) : Prop := ∃ a c, e = .returned (.slice a L.length c) ∧ Rd w' w'.heap.size (.slice a L.length c) L.length (natF L) ∧ Below w.heap.size w w'
end Go.Proofs.YtaajpliifdlokaaGreatDoor

namespace Go.Proofs.YtaajpliifdlokaaGreatDoor
open Go.RowKit
def plainTo (a b : List Co) (q : Nat) : Bool := decide (a.length = b.length) && decide ((fromL a b).take q = List.range q)
def ProjP (w : World) (a b : List Co) (e : Ending) (w' : World) : Prop :=
  ∃ v, e = .returned (.tuple #[v, .bool (projOf a b).isSome]) ∧ RdPo w' (News w w') v ((projOf a b).getD []) ∧ Below w.heap.size w w'
end Go.Proofs.YtaajpliifdlokaaGreatDoor

namespace Go.Proofs.YtaajpliifdlokaaGreatDoor
open Go.Lib
theorem put1_mem_iff {xs : List ByteArray} {s x : ByteArray} : x ∈ put1 xs s ↔ x = s ∨ x ∈ xs := by
  refine ⟨put1_mem, fun h => ?_⟩
  have hk := before_le s xs
  unfold put1
  simp only
  split
  · rw [List.mem_append, List.mem_cons]
    rcases h with rfl | h
    · exact .inr (.inl rfl)
    · rw [← List.take_append_drop (before s xs) xs, List.mem_append] at h
      rcases h with h | h
      · exact .inl h
      · exact .inr (.inr h)
  · rename_i hc
    rcases h with rfl | h
    · have h1 : before x xs ≠ xs.length := fun e => hc (.inl e)
      have h2 : xs.getD (before x xs) ⟨#[]⟩ = x := by
        apply Classical.byContradiction
        exact fun e => hc (.inr e)
      have h3 : before x xs < xs.length := by omega
      rw [List.getD, List.getElem?_eq_getElem h3] at h2
      simp at h2
      rw [← h2]
      exact List.getElem_mem _
    · exact h
theorem foldl_put1_mem (l : List ByteArray) : ∀ (acc : List ByteArray) (x : ByteArray), x ∈ l.foldl put1 acc ↔ x ∈ acc ∨ x ∈ l := by
  induction l with
  | nil => simp
  | cons a l ih =>
    intro acc x
    rw [List.foldl_cons, ih, put1_mem_iff, List.mem_cons]
    constructor
    · rintro ((h | h) | h)
      · exact .inr (.inl h)
      · exact .inl h
      · exact .inr (.inr h)
    · rintro (h | h | h)
      · exact .inl (.inr h)
      · exact .inl (.inl h)
      · exact .inr h
theorem setOfL_mem_iff (l : List ByteArray) (x : ByteArray) : x ∈ setOfL l ↔ x ∈ l := by
  unfold setOfL
  rw [foldl_put1_mem]
  simp
def bytesOf (l : List UInt8) : ByteArray := ⟨l.toArray⟩
def listOf (a : ByteArray) : List UInt8 := a.data.toList
end Go.Proofs.YtaajpliifdlokaaGreatDoor

namespace Go.Proofs
open Go.Shelf
def Tryz.keysB_ren : Go.Shelf.Ren := ⟨fun | 7 => 219 | 10 => 245 | n => n, fun | 23 => 231 | 26 => 9 | 3 => 4 | 28 => 234 | 0 => 0 | 27 => 233 | 33 => 150 | 4 => 4 | n => n, fun | n => n⟩
def Tryz.sortedB_ren : Go.Shelf.Ren := ⟨fun | 6 => 218 | 8 => 243 | 9 => 244 | 11 => 260 | 13 => 90 | 12 => 261 | 23 => 144 | 24 => 145 | 14 => 274 | 15 => 275 | 16 => 276 | 17 => 277 | 18 => 278 | 19 => 279 | 20 => 280 | 21 => 281 | 22 => 282 | 25 => 287 | 26 => 200 | 27 => 201 | 28 => 288 | 29 => 289 | 30 => 290 | 31 => 293 | n => n, fun | 26 => 9 | 28 => 234 | 24 => 107 | 0 => 0 | 3 => 3 | 37 => 135 | 48 => 159 | 50 => 157 | 4 => 4 | 40 => 173 | 39 => 172 | 45 => 66 | 5 => 5 | 9 => 9 | 51 => 215 | 55 => 219 | 57 => 248 | 58 => 249 | 33 => 150 | n => n, fun | n => n⟩
def Tryz.sortB_ren : Go.Shelf.Ren := ⟨fun | 6 => 244 | 8 => 90 | 9 => 261 | 19 => 144 | 20 => 145 | 21 => 274 | 22 => 275 | 23 => 276 | 24 => 277 | 25 => 278 | 26 => 279 | 27 => 280 | 28 => 281 | 29 => 282 | 36 => 287 | 31 => 200 | 32 => 201 | 37 => 288 | 38 => 289 | 39 => 290 | 41 => 293 | n => n, fun | 27 => 107 | 29 => 9 | 3 => 3 | 32 => 135 | 26 => 107 | 0 => 0 | 44 => 159 | 46 => 157 | 4 => 4 | 36 => 173 | 35 => 172 | 41 => 66 | 5 => 5 | 9 => 9 | 53 => 215 | 57 => 219 | 63 => 248 | 64 => 249 | n => n, fun | n => n⟩
def Tryz.layCloneT_ren : Go.Shelf.Ren := ⟨fun | 316 => 221 | n => n, fun | 9 => 9 | 3 => 3 | 4 => 4 | 37 => 261 | 0 => 0 | 127 => 262 | 5 => 5 | n => n, fun | n => n⟩
end Go.Proofs

namespace Go.Proofs.YtaajpliifdlokaaGreatDoor
open Go.RowKit Go.Shelf
def keyB (s : ByteArray) : Lit := .string s.data.toList
theorem keyB_inj {s t : ByteArray} (h : keyB s = keyB t) : s = t := by
  obtain ⟨⟨s⟩⟩ := s
  obtain ⟨⟨t⟩⟩ := t
  simp [keyB] at h
  subst h
  rfl
theorem law_strB : Go.Maps.Keyed Tryz.prog 9 := Go.Maps.string_keyed Tryz.underlying9
theorem key_strB {s : ByteArray} (hs : s.size ≤ maxLen) : keyOf Tryz.prog 9 (.string s) = some (keyB s) := Go.WideMaps.keyOf_string_mk Tryz.underlying9 hs
structure SetOk (D : DataW Unit) (X : List ByteArray) : Prop where
  map : Go.Maps.IsMap D
  has : ∀ s, Go.Maps.has D (keyB s) = true ↔ s ∈ X
theorem SetOk.start : SetOk (.map []) [] := ⟨Go.Maps.isMap_empty, fun s => by simp [Go.Maps.has]⟩
theorem SetOk.put {D : DataW Unit} {X : List ByteArray} (h : SetOk D X) (s : ByteArray) (d : DataW Unit) : SetOk (D.put (keyB s) d) (X ++ [s]) := by
  have hk : Go.WideAt.IsKeyLit (keyB s) := by unfold keyB Go.WideAt.IsKeyLit; trivial
  refine ⟨h.map.put _ _, fun t => ?_⟩
  by_cases e : t = s
  · subst e
    rw [Go.Maps.has_put_same h.map hk]
    simp
  · rw [Go.Maps.has_put_other (fun e2 => e (keyB_inj e2)), h.has t]
    simp [e]
def MapS (w : World) (b n : Nat) (X : List ByteArray) : Prop := ∃ D : DataW Unit, w.ownsMap Tryz.prog 9 (plainElem (H := Unit) Tryz.prog 4) b n D ∧ SetOk D X
section
variable {w w' : World} {b n : Nat} {X : List ByteArray}
theorem MapS.later (h : MapS w b n X) (hk : w'.heap[b]? = w.heap[b]?) : MapS w' b n X := by
  obtain ⟨D, ⟨es, clock, hb, Ft, hs, hD⟩, ho⟩ := h
  exact ⟨D, ⟨es, clock, hk.trans hb, Ft, hs, hD⟩, ho⟩
theorem MapS.lt (h : MapS w b n X) : b < w.heap.size := by
  obtain ⟨D, hown, ho⟩ := h
  exact hown.lt
theorem MapS.made (w : World) : MapS (w.alloc (.map #[] 0)) w.heap.size 0 [] := ⟨_, World.ownsMap_made w Tryz.prog 9 _, SetOk.start⟩
theorem MapS.put (h : MapS w b n X) {s : ByteArray} (hs : s.size ≤ maxLen) (hn : n < maxLen) : ∃ w', (Instr.mapUpdate 231 (.map (some b)) (.string s) (.bool true)).run Tryz.prog w = .ok () w' ∧ MapS w' b (n + 1) (X ++ [s]) ∧ w.grownBy w' (some b) := by
  obtain ⟨D, hown, ho⟩ := h
  obtain ⟨w', h1, h2, h3⟩ := hown.update law_strB Tryz.underlying231 hn (key_strB hs) (plainElem_bool Tryz.underlying4 true)
  exact ⟨w', h1, ⟨_, h2, ho.put s _⟩, h3⟩
end
end Go.Proofs.YtaajpliifdlokaaGreatDoor

namespace Go.Proofs.YtaajpliifdlokaaGreatDoor
open Go.RowKit Go.ChangeMaps
section
variable {P : Program} {w : World} {t k e : TypeId} {q : IntKind} {b : Nat} {es : Array MapEntry} {clock : Nat} {z : Int}
def findI (q : IntKind) (z : Int) (es : Array MapEntry) : Option (Option (Nat × Value)) := Instr.findNow (.int q) (.int q z) es.toList 0
end
end Go.Proofs.YtaajpliifdlokaaGreatDoor

namespace Go.Proofs.YtaajpliifdlokaaGreatDoor
open Go.RowKit
def actV (c : Bool) (t m : Int) (f : Nat) : Value := .agg #[.bool c, .int .i64 t, .int .i64 m, .func (.func f) #[] #[]]
def actE (k : Int) (v : Value) (n : Nat) : MapEntry := ⟨.int .i64 k, v, n⟩
def actM : Array MapEntry := #[actE 1 (actV true 1024 0 246) 0, actE 2 (actV true 0 0 246) 1, actE 3 (actV false 0 64 247) 2, actE 4 (actV false 0 0 248) 3, actE 5 (actV true 0 0 251) 4]
def Acts (w w' : World) (b : Nat) : Prop := w.heap.size ≤ b ∧ w'.heap[b]? = some (.map actM 5) ∧ Below w.heap.size w w'
end Go.Proofs.YtaajpliifdlokaaGreatDoor

namespace Go.Proofs.YtaajpliifdlokaaGreatDoor
open Go.RowKit
theorem flat_set1 (n : Nat) (f f' : Nat → Nat → Value) (i : Nat) (hi : i < n) (u : Value) (h0 : f' i 0 = f i 0) (h1 : f' i 1 = u) (hf : ∀ k, k ≠ i → f' k = f k) : (flatK 2 n f).set (i * 2 + 1) u = flatK 2 n f' := by
  apply List.ext_getElem?
  intro m
  by_cases hm : m < n * 2
  · have e : m = m / 2 * 2 + m % 2 := by omega
    have hk : m / 2 < n := by omega
    have a1 := flatK_at (k := 2) (f := f') hk (Nat.mod_lt m (by omega))
    have a2 := flatK_at (k := 2) (f := f) hk (Nat.mod_lt m (by omega))
    rw [← e] at a1 a2
    rw [a1, List.getElem?_set]
    by_cases hmi : i * 2 + 1 = m
    · have e2 : m / 2 = i := by omega
      have e3 : m % 2 = 1 := by omega
      rw [if_pos hmi, if_pos (by rw [flatK_len]; omega), e2, e3, h1]
    · rw [if_neg hmi, a2]
      by_cases hki : m / 2 = i
      · have e3 : m % 2 = 0 := by omega
        rw [hki, e3, h0]
      · rw [hf _ hki]
  · rw [List.getElem?_eq_none (by rw [List.length_set, flatK_len]; omega), List.getElem?_eq_none (by rw [flatK_len]; omega)]
structure OwnAt (W : World) (base : Nat) (e : TypeId) (v : Value) (L q : Nat) (xs : List Co) (cw cv : Nat → Value) : Prop where
  row : W.ownsRow base e 2 v L (flatK 2 L (coF xs cw))
  low : base ≤ W.heap.size
  kids : ∀ i, i < q → RdCl W (Own W base v) (cw i) (xs.getD i Co.z).cells
  rest : ∀ i, q ≤ i → cw i = cv i
section
variable {W W' : World} {base : Nat} {e : TypeId} {v : Value} {L q : Nat} {xs : List Co} {cw cv : Nat → Value}
theorem OwnAt.later (h : OwnAt W base e v L q xs cw cv) (hb : Below W.heap.size W W') : OwnAt W' base e v L q xs cw cv :=
  ⟨own_later h.row hb, Nat.le_trans h.low hb.size, fun i hi => ((h.kids i hi).keep fun p hp => hb.cell (p := p) hp.2.1).more fun b hb' => ⟨hb'.1, Nat.lt_of_lt_of_le hb'.2.1 hb.size, hb'.2.2⟩, h.rest⟩
theorem OwnAt.put {g cap : Nat} (h : OwnAt W base e (.slice (some ⟨g, 0, none⟩) L cap) L q xs cw cv) (hq : q < L) {z : Value} {ys : List Co} (hy : ys.getD q Co.z = ⟨(xs.getD q Co.z).name, (ys.getD q Co.z).cells⟩) (hyo : ∀ i, i ≠ q → ys.getD i Co.z = xs.getD i Co.z)
    (hz : RdCl W (fun b => base ≤ b ∧ b < W.heap.size ∧ b ≠ g) z (ys.getD q Co.z).cells) :
    OwnAt (W.setCell ⟨g, q * 2 + 1, none⟩ z) base e (.slice (some ⟨g, 0, none⟩) L cap) L (q + 1) ys (fun i => if i = q then z else cw i) cv := by
  have hc : ∀ p : Addr, p.block ≠ g → (W.setCell ⟨g, q * 2 + 1, none⟩ z).cell? p = W.cell? p := fun p hp => World.cell?_setCell_other _ _ _ _ (by intro e; subst e; exact hp rfl)
  refine ⟨?_, by simpa using h.low, fun i hi => ?_, fun i hi => ?_⟩
  · rw [← flat_set1 L (coF xs cw) _ q hq z ?_ ?_ ?_]
    · exact (h.row.stored (q * 2 + 1) z).1
    · simp only [coF, two]
      rw [hy]
    · simp [coF, two]
    · intro k hk
      simp only [coF, if_neg hk]
      rw [hyo k hk]
  · by_cases hiq : i = q
    · subst hiq
      rw [if_pos rfl]
      refine (hz.keep fun p hp => hc p hp.2.2).more fun b hb => ⟨hb.1, by simpa using hb.2.1, fun e => hb.2.2 ?_⟩
      simp only [Value.ownBlock, Option.some.injEq] at e
      exact e.symm
    · rw [if_neg hiq, hyo i hiq]
      refine ((h.kids i (by omega)).keep fun p hp => hc p fun e => hp.2.2 ?_).more fun b hb => ⟨hb.1, by simpa using hb.2.1, hb.2.2⟩
      rw [e]
      rfl
  · rw [if_neg (by omega)]
    exact h.rest i (by omega)
theorem OwnAt.done (h : OwnAt W base e v L L xs cw cv) (hl : L = xs.length) : CoSt W base e v xs := by
  subst hl
  exact ⟨cw, h.row, h.low, h.kids⟩
end
end Go.Proofs.YtaajpliifdlokaaGreatDoor

namespace Go.Proofs.YtaajpliifdlokaaGreatDoor
open Go.RowKit
def fillC (pl : List Cl) (q idx : Nat) : Value := if idx < q * 2 then clF pl (idx / 2) (idx % 2) else clF [] 0 (idx % 2)
def mixC (xs : List Co) (rs : List Nat) (q : Nat) : List Co := selL (xs.take q) rs ++ xs.drop q
end Go.Proofs.YtaajpliifdlokaaGreatDoor

namespace Go.Proofs.YtaajpliifdlokaaGreatDoor
open Go.RowKit
def stayL (p : Nat → Bool) (j : Nat) : List Nat := (List.range j).filter fun q => !p q
def Stays (w : World) (b n : Nat) (F : List Nat) (e : Ending) (w' : World) : Prop :=
  e = .returned (.slice (some ⟨b, 0, none⟩) F.length n) ∧ F.length ≤ n ∧ (∀ i, i < F.length → w'.cell? ⟨b, i, none⟩ = some (natF F i)) ∧ Roll w.heap.size b w w'
end Go.Proofs.YtaajpliifdlokaaGreatDoor

namespace Go.Proofs.YtaajpliifdlokaaGreatDoor
open Go.RowKit
end Go.Proofs.YtaajpliifdlokaaGreatDoor

namespace Go.Proofs.YtaajpliifdlokaaGreatDoor
open Go.RowKit
end Go.Proofs.YtaajpliifdlokaaGreatDoor

namespace Go.Proofs.YtaajpliifdlokaaGreatDoor
open Go.RowKit
end Go.Proofs.YtaajpliifdlokaaGreatDoor

namespace Go.Proofs.YtaajpliifdlokaaGreatDoor
open Go.RowKit
def cmpS (x y : ByteArray) : Int := if sl x y = true then -1 else if x = y then 0 else 1
end Go.Proofs.YtaajpliifdlokaaGreatDoor

namespace Go.Proofs.YtaajpliifdlokaaGreatDoor
open Go.RowKit
def sortedTo (F : Nat → List Nat) (n i : Nat) : List Nat := F i ++ List.range' i (n - i)
end Go.Proofs.YtaajpliifdlokaaGreatDoor

namespace Go.Proofs.YtaajpliifdlokaaGreatDoor
open Go.RowKit
end Go.Proofs.YtaajpliifdlokaaGreatDoor

namespace Go.Proofs.YtaajpliifdlokaaGreatDoor
open Go.RowKit
theorem can_ks {n : Nat} {o : Po} (h : canL n o = true) (hk : o.kind = 3) : o.cols.all (thereL n) = true ∧ o.cols.length ≤ 64 := by
  unfold canL at h
  rw [if_neg (by omega), if_neg (by omega), if_pos hk] at h
  simp only [Bool.and_eq_true, decide_eq_true_eq] at h
  exact ⟨h.1, h.2.2⟩
end Go.Proofs.YtaajpliifdlokaaGreatDoor

namespace Go.Proofs.YtaajpliifdlokaaGreatDoor
open Go.RowKit
end Go.Proofs.YtaajpliifdlokaaGreatDoor

namespace Go.Proofs.YtaajpliifdlokaaGreatDoor
open Go.RowKit
theorem do_len {xs : List Co} {o : Po} (hl : xs.length ≤ 64) (hc : canL xs.length o = true) : (doL xs o).length ≤ 64 := by
  unfold doL
  by_cases h3 : o.kind = 3
  · rw [if_pos h3, projL_len]
    exact (can_ks hc h3).2
  · rw [if_neg h3, selL_len]
    exact hl
theorem run_ok : ∀ (os : List Po) (xs : List Co), Few xs → xs.length ≤ 64 → canRun xs os = true → ∀ q, Few (runL xs (os.take q)) ∧ (runL xs (os.take q)).length ≤ 64 ∧ (q < os.length → canL (runL xs (os.take q)).length (os.getD q Po.z) = true)
  | [], xs, h, hl, _, q => ⟨by simpa [runL] using h, by simpa [runL] using hl, fun hq => by simp at hq⟩
  | o :: os, xs, h, hl, hc, q => by
    unfold canRun at hc
    rw [Bool.and_eq_true] at hc
    cases q with
    | zero => exact ⟨by simpa [runL] using h, by simpa [runL] using hl, fun _ => by simpa [runL] using hc.1⟩
    | succ q =>
      obtain ⟨h1, h2, h3⟩ := run_ok os (doL xs o) (few_do h hc.1) (do_len hl hc.1) hc.2 q
      refine ⟨by simpa [runL] using h1, by simpa [runL] using h2, fun hq => ?_⟩
      have := h3 (by simpa using hq)
      simpa [runL] using this
theorem RdKs.more {w : World} {S S' : Nat → Prop} {v : Value} {ks : List Int} (h : RdKs w S v ks) (hS : ∀ b, S b → S' b) : RdKs w S' v ks := InK.more h hS
theorem RdKs.keep {w w' : World} {S : Nat → Prop} {v : Value} {ks : List Int} (h : RdKs w S v ks) (hk : ∀ p : Addr, S p.block → w'.cell? p = w.cell? p) : RdKs w' S v ks := InK.keep h hk
def OwnCo (w : World) (B O : Nat) (W : World) (v : Value) (ys : List Co) : Prop := RdCo W (fun b => B ≤ b ∧ b < W.heap.size ∧ b ≠ O) v ys ∧ Below w.heap.size w W
end Go.Proofs.YtaajpliifdlokaaGreatDoor

namespace Go.Proofs.YtaajpliifdlokaaGreatDoor
open Go.RowKit
def filtTo (xs : List Co) (q : Nat) : List (List Po) := [] :: (List.range q).flatMap fun k => filters1 (xs.getD k Co.z) k
def filtIn (xs : List Co) (q j : Nat) : List (List Po) := filtTo xs q ++ ([opFull q] :: ((hasC (xs.getD q Co.z)).take j).map fun s => [opEq q s])
end Go.Proofs.YtaajpliifdlokaaGreatDoor

namespace Go.Proofs.YtaajpliifdlokaaGreatDoor
open Go.RowKit
def sortsTo (q : Nat) : List (List Po) := [] :: (List.range q).map fun k => [opSort k]
def endsTo (n j : Nat) : List (List Po) := sortsL n ++ ((sortsL n).take j).map (opDist :: ·)
end Go.Proofs.YtaajpliifdlokaaGreatDoor

namespace Go.Proofs.YtaajpliifdlokaaGreatDoor
open Go.RowKit
end Go.Proofs.YtaajpliifdlokaaGreatDoor
