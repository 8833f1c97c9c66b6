/- slices.SortFunc at an own row of elements of several cells, with a comparator that reads memory and makes memory of its own. No program in sight but the library's. Links are sorted: slices.SortFunc at links that are in order. -/
import Derived.Shelf.SlSortCmp.WholeK
import Derived.Test.YtaajpliifdlokaaGreatDoorLnNraj
import Derived.Test.YtaajpliifdlokaaGreatDoorLnNrab
import Derived.Shelf.SlSortCmp.NoneTotal
import Derived.Test.YtaajpliifdlokaaGreatDoorLnNrai
set_option linter.unusedVariables false
set_option linter.unusedSimpArgs false
namespace Go.Proofs.YtaajpliifdlokaaGreatDoor
open Go.RowKit Go.Shelf
structure Bar (w : World) (blk : Nat) (W : World) : Prop where
  os : W.os = w.os
  tape : W.tape = w.tape
  output : W.output = w.output
  size : w.heap.size ≤ W.heap.size
  block : ∀ k, k < w.heap.size → k ≠ blk → W.heap[k]? = w.heap[k]?
theorem Bar.cell {w W : World} {blk : Nat} (h : Bar w blk W) {p : Addr} (h1 : p.block < w.heap.size) (h2 : p.block ≠ blk) : W.cell? p = w.cell? p :=
  World.cell?_of_block (h.block _ h1 h2)
theorem Bar.below {w W : World} {blk : Nat} (h : Bar w blk W) {B : Nat} (h1 : B ≤ w.heap.size) (h2 : B ≤ blk) : Below B w W :=
  ⟨h.os, h.tape, h.output, h.size, fun k hk => h.block k (by omega) (by omega)⟩
section
variable {α : Type}
def encF (enc : α → List Value) (d : α) (ds : List α) (i j : Nat) : Value := (enc (ds.getD i d)).getD j (.bool false)
theorem flatG [Inhabited α] (enc : α → List Value) (k : Nat) (d : α) (D : Array α) {j : Nat} (hj : j < D.size * k) (he : ∀ i, i < D.size → ∀ m, m < k → (enc D[i]!)[m]! = encF enc d D.toList i m) :
    (Go.Sort.flatK enc k D)[j]! = encF enc d D.toList (j / k) (j % k) := by
  rw [Go.Sort.get_flatK _ _ _ _ hj]
  have k0 : 0 < k := by rcases Nat.eq_zero_or_pos k with h | h
                        · subst h; simp at hj
                        · exact h
  exact he _ (Nat.div_lt_of_lt_mul (by rw [Nat.mul_comm]; exact hj)) _ (Nat.mod_lt _ k0)
theorem encF_at [Inhabited α] (enc : α → List Value) (k : Nat) (hk : ∀ x, (enc x).length = k) (d : α) (D : Array α) (i : Nat) (hi : i < D.size) (m : Nat) (hm : m < k) : (enc D[i]!)[m]! = encF enc d D.toList i m := by
  have h1 : D.toList.getD i d = D[i]! := by rw [getElem!_pos D i hi]; simp [List.getD, hi]
  unfold encF
  rw [h1]
  have h2 : m < (enc D[i]!).length := by rw [hk]; exact hm
  rw [getElem!_pos _ m h2]
  simp [List.getD, h2]
theorem flatG_list [Inhabited α] (enc : α → List Value) (k : Nat) (hk : ∀ x, (enc x).length = k) (d : α) (D : Array α) : (Go.Sort.flatK enc k D).toList = flatK k D.size (encF enc d D.toList) := by
  apply List.ext_getElem?
  intro j
  by_cases hj : j < D.size * k
  · have k0 : 0 < k := by rcases Nat.eq_zero_or_pos k with h | h
                          · subst h; simp at hj
                          · exact h
    have h2 := flatK_at (f := encF enc d D.toList) (k := k) (i := j / k) (j := j % k) (Nat.div_lt_of_lt_mul (by rw [Nat.mul_comm]; exact hj)) (Nat.mod_lt _ k0)
    rw [Nat.div_add_mod' j k] at h2
    rw [h2, Array.getElem?_toList, ← flatG enc k d D hj (fun i hi m hm => encF_at enc k hk d D i hi m hm), getElem!_pos _ _ (by rw [Go.Sort.size_flatK]; exact hj), Array.getElem?_eq_getElem]
  · rw [List.getElem?_eq_none (by simp; omega), List.getElem?_eq_none (by rw [flatK_len]; omega)]
theorem put_takeG (F c : Array Value) (h : F.size ≤ c.size) : (Go.Sort.putCells id 0 F c).toList.take F.size = F.toList := by
  apply List.ext_getElem?
  intro j
  by_cases hj : j < F.size
  · rw [List.getElem?_take_of_lt hj, Array.getElem?_toList, Array.getElem?_toList]
    have hc : j < c.size := by omega
    simp [Go.Sort.putCells, hj, hc]
  · rw [List.getElem?_eq_none (by simp; omega), List.getElem?_eq_none (by simp; omega)]
theorem sorted_heapG [Inhabited α] (enc : α → List Value) (k : Nat) {w : World} {blk m : Nat} {c : Array Value} {e : TypeId} (hb : w.heap[blk]? = some (.cells c e (0, 0))) (d : Array α) (os : Array Obj) :
    (Go.Proofs.sortWorldK enc k w blk 0 m d os).heap[blk]? = some (.cells (Go.Sort.putCells id 0 (Go.Sort.flatK enc k d) c) e (0, 0)) := by
  have hg : blk < w.heap.size := (Array.getElem?_eq_some_iff.1 hb).1
  unfold Go.Proofs.sortWorldK Go.Sort.putRowK
  rw [Go.Sort.heap_grow_old _ _ (by simpa using hg)]
  simp [Go.Sort.putRow, Go.Sort.mapBlock, Go.Sort.ahead, Array.getElem?_modify, hb, Go.Sort.onCells]
theorem sorted_barG [Inhabited α] (enc : α → List Value) (k : Nat) (w : World) (blk m : Nat) (d : Array α) (os : Array Obj) : Bar w blk (Go.Proofs.sortWorldK enc k w blk 0 m d os) := by
  refine ⟨rfl, rfl, rfl, by simp [Go.Proofs.sortWorldK, Go.Sort.putRowK], fun j hj hne => ?_⟩
  unfold Go.Proofs.sortWorldK Go.Sort.putRowK
  rw [Go.Sort.heap_grow_old _ _ (by simpa using hj)]
  have : blk ≠ j := fun e => hne e.symm
  simp [Go.Sort.putRow, Go.Sort.mapBlock, Go.Sort.ahead, Array.getElem?_modify, this]
theorem sort_row {P : Program} {ρ : Ren} (L : SlLaysF0.n6 P ρ) (k : Nat) (aE : ∀ w, (isAgg (ρ.t 24)).run P w = .ok true w) (zE : ∀ w, (Go.sizeOf (ρ.t 24)).run P w = .ok k w) (enc : α → List Value) (hk : ∀ x, (enc x).length = k) (h1 : ∀ x, ∀ v ∈ enc x, v.oneCell' = true)
    (cf : α → α → Int) (hO : Go.Sort.SWO (Go.Proofs.ltOf cf)) (g : Nat) (eg : ∀ args w, (callFunc g args).run P w = .ok (.enter g args) w) (d0 : α) (ds : List α) (base blk n cap : Nat) (e : TypeId) (w : World) (hn : ds.length = n) (hp : 0 < n) (hm : n ≤ 1048576)
    (hrow : w.ownsRow base e k (.slice (some ⟨blk, 0, none⟩) n cap) n (flatK k n (encF enc d0 ds)))
    (hcmp : ∀ W, Bar w blk W → ∀ x ∈ ds, ∀ y ∈ ds, Calls P g #[.agg (enc x).toArray, .agg (enc y).toArray] W (fun e w' => e = .returned (.int .i64 (cf x y)) ∧ Below W.heap.size W w')) :
    Calls P (ρ.f 6) #[.slice (some ⟨blk, 0, none⟩) n cap, .func (.func g) #[] #[]] w fun e' w' =>
      e' = .returned (.tuple #[]) ∧ ∃ ds', ds'.Perm ds ∧ ds'.Pairwise (fun a b => Go.Proofs.ltOf cf b a = false) ∧ w'.ownsRow base e k (.slice (some ⟨blk, 0, none⟩) n cap) n (flatK k n (encF enc d0 ds')) ∧ Bar w blk w' := by
  subst hn
  have hne : ds ≠ [] := by intro h; subst h; simp at hp
  let β := {x // x ∈ ds}
  haveI : Inhabited β := ⟨⟨ds.head hne, List.head_mem hne⟩⟩
  let enc' : β → List Value := fun x => enc x.1
  let cf' : β → β → Int := fun x y => cf x.1 y.1
  let A : Array β := ds.attach.toArray
  have hAs : A.size = ds.length := by show ds.attach.toArray.size = _; rw [List.size_toArray, List.length_attach]
  have hAm : A.toList.map (·.1) = ds := by show ds.attach.toArray.toList.map _ = _; exact List.attach_map_subtype_val ds
  have hk' : ∀ x, (enc' x).length = k := fun x => hk x.1
  have hO' : Go.Sort.SWO (Go.Proofs.ltOf cf') := ⟨fun x => hO.irrefl x.1, fun x y z => hO.trans x.1 y.1 z.1, fun x y z => hO.ntrans x.1 y.1 z.1⟩
  have hff : ∀ D : Array β, D.size = ds.length → flatK k ds.length (encF enc' ⟨ds.head hne, List.head_mem hne⟩ D.toList) = flatK k ds.length (encF enc d0 (D.toList.map (·.1))) := fun D hD => by
    apply List.ext_getElem?
    intro j
    by_cases hj : j < ds.length * k
    · have k0 : 0 < k := by rcases Nat.eq_zero_or_pos k with h | h
                            · subst h; simp at hj
                            · exact h
      have hd : j / k < ds.length := Nat.div_lt_of_lt_mul (by rw [Nat.mul_comm]; exact hj)
      have a1 := flatK_at (f := encF enc' ⟨ds.head hne, List.head_mem hne⟩ D.toList) (k := k) (i := j / k) (j := j % k) hd (Nat.mod_lt _ k0)
      have a2 := flatK_at (f := encF enc d0 (D.toList.map (·.1))) (k := k) (i := j / k) (j := j % k) hd (Nat.mod_lt _ k0)
      rw [Nat.div_add_mod' j k] at a1 a2
      rw [a1, a2]
      unfold encF
      have hd' : j / k < D.toList.length := by simpa [hD] using hd
      simp [List.getD, enc', hD, hd]
    · rw [List.getElem?_eq_none (by rw [flatK_len]; omega), List.getElem?_eq_none (by rw [flatK_len]; omega)]
  have eg' := eg
  rcases hrow.2 with ⟨e1, -⟩ | ⟨g1, cap1, cur, e1, hb, hheap, hcn, hcm, hsz, htake⟩
  · cases e1
  · cases e1
    have hblk : blk < w.heap.size := (Array.getElem?_eq_some_iff.1 hheap).1
    have hH : Go.Sort.HoldsK enc' k w blk 0 A := by
      intro j hj
      rw [Go.Sort.size_flatK, hAs] at hj
      have k0 : 0 < k := by rcases Nat.eq_zero_or_pos k with h | h
                            · subst h; simp at hj
                            · exact h
      have hd : j / k < ds.length := Nat.div_lt_of_lt_mul (by rw [Nat.mul_comm]; exact hj)
      rw [Nat.zero_add, flatG enc' k ⟨ds.head hne, List.head_mem hne⟩ A (by rw [hAs]; exact hj) (fun i hi m hm => encF_at enc' k hk' _ A i hi m hm)]
      have h3 := flatK_at (f := encF enc d0 ds) (k := k) (i := j / k) (j := j % k) hd (Nat.mod_lt _ k0)
      have h4 := flatK_at (f := encF enc' ⟨ds.head hne, List.head_mem hne⟩ A.toList) (k := k) (i := j / k) (j := j % k) hd (Nat.mod_lt _ k0)
      rw [hff A hAs, hAm, h3] at h4
      rw [← Option.some.inj h4]
      rw [Nat.div_add_mod' j k, ← htake, List.getElem?_take_of_lt hj, Array.getElem?_toList] at h3
      refine ⟨?_, ?_⟩
      · show World.cell? w ⟨blk, j, none⟩ = some _
        simp only [World.cell?, hheap, id]
        simp [h3]
      · simp [World.frozen?, hheap]
    have hcl : Go.Proofs.CmpLays P g #[] enc' k cf' blk 0 A.size w := fun m os dk hdk x y =>
      Dr.calls_grows (hcmp _ (sorted_barG enc' k w blk m dk os) x.1 x.2 y.1 y.2)
    have hcon := AnyQ.slices_SortFunc L k aE zE enc' hk' (fun x v hv => h1 x.1 v hv) cf' hO' g #[] blk 0 cap A w eg' hcl hH hblk (by rw [hAs]; omega)
    rw [hAs] at hcon
    refine hcon.mono ?_
    rintro e' w' ⟨he, D, m, os, hp1, hs, rfl⟩
    have hDs : D.size = ds.length := hp1.1.trans hAs
    have hperm : D.toList.Perm A.toList := by
      have h1 := hp1.2.2
      rw [Array.extract_eq_self_of_le (by omega), Array.extract_eq_self_of_le (by omega)] at h1
      exact h1
    refine ⟨he, D.toList.map (·.1), ?_, ?_, ?_, sorted_barG enc' k w blk m D os⟩
    · have := hperm.map (fun x : β => x.1)
      rwa [hAm] at this
    · rw [List.pairwise_iff_getElem]
      intro i j hi hj hij
      have hi' : i < D.size := by simpa using hi
      have hj' : j < D.size := by simpa using hj
      have := hs i j (Nat.zero_le _) hij (by omega)
      rw [getElem!_pos D i hi', getElem!_pos D j hj'] at this
      simpa [Go.Proofs.ltOf, cf'] using this
    · refine ⟨flatK_len _ _ _, .inr ⟨blk, cap, _, rfl, hb, sorted_heapG enc' k hheap D os, hcn, hcm, by simp [Go.Sort.putCells, hsz], ?_⟩⟩
      have h1 := put_takeG (Go.Sort.flatK enc' k D) cur (by rw [Go.Sort.size_flatK, hDs, hsz]; exact Nat.mul_le_mul_right _ hcn)
      rw [Go.Sort.size_flatK, hDs] at h1
      rw [h1, flatG_list enc' k hk' ⟨ds.head hne, List.head_mem hne⟩ D, hDs, hff D hDs]
end
end Go.Proofs.YtaajpliifdlokaaGreatDoor

namespace Go.Proofs.YtaajpliifdlokaaGreatDoor
open Go.RowKit Go.Shelf
def Kx := Int × Int × (Option Addr × Nat × Nat)
instance : Inhabited Kx := ⟨((0 : Int), (0 : Int), (none : Option Addr), (0 : Nat), (0 : Nat))⟩
def encK (x : Kx) : List Value := [.int .i64 x.1, .int .i64 x.2.1, .slice x.2.2.1 x.2.2.2.1 x.2.2.2.2]
def cfK (x y : Kx) : Int := cmpI x.2.1 y.2.1
theorem ltK (x y : Kx) : Go.Proofs.ltOf cfK x y = true ↔ x.2.1 < y.2.1 := by
  unfold Go.Proofs.ltOf cfK cmpI
  rw [decide_eq_true_iff]
  constructor
  · intro h
    split at h
    · assumption
    · split at h <;> omega
  · intro h
    rw [if_pos h]
    decide
theorem ltK_false (x y : Kx) : Go.Proofs.ltOf cfK x y = false ↔ y.2.1 ≤ x.2.1 := by
  rw [← Bool.not_eq_true, ltK]
  omega
theorem swoK : Go.Sort.SWO (Go.Proofs.ltOf cfK) where
  irrefl x := by rw [ltK_false]; omega
  trans x y z h1 h2 := by rw [ltK] at *; omega
  ntrans x y z h1 h2 := by rw [ltK_false] at *; omega
theorem perm_same {α : Type} (key : α → Int) : ∀ {xs ys : List α}, ys.Perm xs → xs.Pairwise (fun a b => key a < key b) → ys.Pairwise (fun a b => key a ≤ key b) → ys = xs
  | [], ys, h, _, _ => List.Perm.eq_nil h
  | x :: r, [], h, _, _ => by have := h.length_eq; simp at this
  | x :: r, y :: s, h, hx, hy => by
    obtain ⟨x1, x2⟩ := List.pairwise_cons.1 hx
    obtain ⟨y1, y2⟩ := List.pairwise_cons.1 hy
    have hyx : y ∈ x :: r := h.mem_iff.1 List.mem_cons_self
    have hxy : x ∈ y :: s := h.mem_iff.2 List.mem_cons_self
    have e : y = x := by
      rcases List.mem_cons.1 hyx with h1 | h1
      · exact h1
      · rcases List.mem_cons.1 hxy with h2 | h2
        · exact h2.symm
        · have a1 := x1 y h1
          have a2 := y1 x h2
          omega
    subst e
    rw [perm_same key (List.Perm.cons_inv h) x2 y2]
def partsOf : Value → Option Addr × Nat × Nat
  | .slice a n c => (a, n, c)
  | _ => (none, 0, 0)
def kOf (xs : List Lk) (uv : Nat → Value) (i : Nat) : Kx := ((xs.getD i Lk.z).src, (xs.getD i Lk.z).dst, partsOf (uv i))
def kxs (xs : List Lk) (uv : Nat → Value) : List Kx := (List.range xs.length).map (kOf xs uv)
theorem kxs_len (xs : List Lk) (uv : Nat → Value) : (kxs xs uv).length = xs.length := by unfold kxs; rw [List.length_map, List.length_range]
theorem kxs_at (xs : List Lk) (uv : Nat → Value) {i : Nat} (hi : i < xs.length) : (kxs xs uv).getD i default = kOf xs uv i := by
  have h : i < (kxs xs uv).length := by rw [kxs_len]; exact hi
  rw [List.getD, List.getElem?_eq_getElem h]
  simp only [kxs, Option.getD_some, List.getElem_map, List.getElem_range]
theorem kxs_asc {xs : List Lk} (uv : Nat → Value) (hs : xs.Pairwise fun a b => a.dst < b.dst) : (kxs xs uv).Pairwise fun a b => a.2.1 < b.2.1 := by
  rw [List.pairwise_iff_getElem] at hs ⊢
  intro i j hi hj hij
  rw [kxs_len] at hi hj
  have := hs i j hi hj hij
  simp only [kxs, List.getElem_map, List.getElem_range]
  show (xs.getD i Lk.z).dst < (xs.getD j Lk.z).dst
  simpa [List.getD, hi, hj] using this
set_option maxHeartbeats 1000000 in
theorem lin_byTo (x y : Kx) (W : World) : Calls Tryz.prog 64 #[.agg (encK x).toArray, .agg (encK y).toArray] W (fun e w' => e = .returned (.int .i64 (cfK x y)) ∧ Below W.heap.size W w') := by
  obtain ⟨sx, dx, ax, nx, cx⟩ := x
  obtain ⟨sy, dy, ay, ny, cy⟩ := y
  show Calls Tryz.prog 64 #[.agg #[.int .i64 sx, .int .i64 dx, .slice ax nx cx], .agg #[.int .i64 sy, .int .i64 dy, .slice ay ny cy]] W (fun e w' => e = .returned (.int .i64 (cmpI dx dy)) ∧ Below W.heap.size W w')
  have hbx := (BoxN.new W #[.int .i64 sx, .int .i64 dx, .slice ax nx cx] 76).alloc (.cells #[.int .i64 sy, .int .i64 dy, .slice ay ny cy] 76)
  have hby := BoxN.new (W.alloc (.cells #[.int .i64 sx, .int .i64 dx, .slice ax nx cx] 76)) #[.int .i64 sy, .int .i64 dy, .slice ay ny cy] 76
  rw [World.size_alloc] at hby
  have HB0 := hid (((Below.refl W.heap.size W).alloc (Nat.le_refl _) (.cells #[.int .i64 sx, .int .i64 dx, .slice ax nx cx] 76)).alloc (by simp) (.cells #[.int .i64 sy, .int .i64 dy, .slice ay ny cy] 76))
  have x1 := hbx.cell 1 rfl
  have y1 := hby.cell 1 rfl
  go_enter Tryz.func64, Tryz.ntmps64
  go_wp2_with fail
  with_reducible refine (lib_CmpI _ _ _).mono ?_
  rintro e w1 ⟨rfl, rfl⟩
  go_wp2
  go_ret
  exact ⟨rfl, HB0.out⟩
def SortedLk (w : World) (base : Nat) (v : Value) (xs : List Lk) (e : Ending) (w' : World) : Prop :=
  e = .returned (.tuple #[]) ∧ LkSt w' base 76 v xs ∧ Below base w w'
set_option maxHeartbeats 1000000 in
theorem lk_sort (xs : List Lk) (base : Nat) (v : Value) (w : World) (h : LkSt w base 76 v xs) (hs : xs.Pairwise fun a b => a.dst < b.dst) (hm : xs.length ≤ 1048576) :
    Calls Tryz.prog 63 #[v, .func (.func 64) #[] #[]] w (SortedLk w base v xs) := by
  obtain ⟨uv, hn⟩ := h
  have hlow := hn.low
  rcases hn.row.2 with ⟨e1, -⟩ | ⟨blk, cap, cur, e1, hbl, -, hcn, -, -, -⟩
  · subst e1
    have hx0 : xs.length = 0 := by
      have h1 := hn.kids
      rcases Nat.eq_zero_or_pos xs.length with h0 | h0
      · exact h0
      · obtain ⟨a, c, e2, -⟩ := inK_of_owns hn.row
        have := (Value.slice.inj e2).2.1
        omega
    refine (AnyF.slices_SortFunc_none { Tryz.sortLink with } none 0 _ w).mono ?_
    rintro e w' ⟨he, rfl⟩
    exact ⟨he, ⟨uv, hn⟩, Below.refl _ _⟩
  · obtain ⟨a, c, e2, -⟩ := inK_of_owns hn.row
    rw [e1] at e2
    obtain ⟨-, h3, -⟩ := Value.slice.inj e2
    rw [h3] at e1
    subst e1
    rcases Nat.eq_zero_or_pos xs.length with h0 | h0
    · have hn' := hn
      rw [h0]
      refine (AnyF.slices_SortFunc_none { Tryz.sortLink with } (some ⟨blk, 0, none⟩) cap _ w).mono ?_
      rintro e w' ⟨he, rfl⟩
      refine ⟨he, ⟨uv, ?_⟩, Below.refl _ _⟩
      rw [h0] at hn' ⊢
      exact hn'
    · have hdl := kxs_len xs uv
      have hfl : flatK 3 xs.length (encF encK default (kxs xs uv)) = flatK 3 xs.length (lkF xs uv) := flatK_congr fun i hi j hj => by
        unfold encF
        rw [kxs_at xs uv hi]
        obtain ⟨_, ⟨a, c, e, -⟩, -⟩ := hn.kids i hi
        rcases (show j = 0 ∨ j = 1 ∨ j = 2 by omega) with rfl | rfl | rfl
        · rfl
        · rfl
        · simp [encK, kOf, lkF, three, e, partsOf]
      have hasc := kxs_asc uv hs
      have eg : ∀ args w, (callFunc 64 args).run Tryz.prog w = .ok (.enter 64 args) w := enters_of Tryz.func64 (by kernel_rfl) rfl
      refine (sort_row Tryz.sortLink 3 Tryz.isAgg76 Tryz.sizeOf76 encK (fun _ => rfl) (fun x v hv => by simp [encK] at hv; rcases hv with rfl | rfl | rfl <;> rfl) cfK swoK 64 eg default (kxs xs uv) base blk xs.length cap 76 w hdl h0 hm (by rw [hfl]; exact hn.row)
        (fun W _ x _ y _ => lin_byTo x y W)).mono ?_
      rintro e w' ⟨he, ds', hp, hsd, hrow, hbar⟩
      obtain rfl : ds' = kxs xs uv := perm_same (fun x : Kx => x.2.1) hp hasc (hsd.imp fun h => (ltK_false _ _).1 h)
      rw [hfl] at hrow
      refine ⟨he, ⟨uv, hrow, Nat.le_trans hlow hbar.size, fun i hi => ?_⟩, hbar.below hlow hbl⟩
      exact ((hn.kids i hi).keep fun p hp => hbar.cell hp.2.1 (fun e => hp.2.2 (by rw [e]; rfl))).more fun b hb => ⟨hb.1, Nat.lt_of_lt_of_le hb.2.1 hbar.size, hb.2.2⟩
end Go.Proofs.YtaajpliifdlokaaGreatDoor
