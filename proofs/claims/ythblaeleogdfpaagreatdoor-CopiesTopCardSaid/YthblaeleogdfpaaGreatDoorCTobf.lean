/- slices.SortFunc at an own row of elements of several cells, with a comparator that reads memory and makes memory of its own. No program in sight but the library's. The order of matches: unionsearch.Compare; sorting them; lists.First. Matches are sorted: slices.SortFunc and lists.First at matches. Matches in memory: what is read of a list of them; rows of matches that grow. -/
import Derived.Shelf.SlSortCmp.WholeK
import Derived.Test.YthblaeleogdfpaaGreatDoorCTobe
import Derived.Test.YthblaeleogdfpaaGreatDoorCToab
import Derived.Test.YthblaeleogdfpaaGreatDoorCToaq
import Derived.Test.YthblaeleogdfpaaGreatDoorCTobd
import Derived.Deep.Cut
import Derived.Lib.MinMax
import Derived.Test.YthblaeleogdfpaaGreatDoorCToad
import Derived.Test.YthblaeleogdfpaaGreatDoorCToax
set_option linter.unusedVariables false
set_option linter.unusedSimpArgs false
namespace Go.Proofs.YthblaeleogdfpaaGreatDoor
open Go.RowKit Go.Shelf
structure Bar (w : World) (blk : Nat) (W : World) : Prop where
  os : W.os = w.os
  tape : W.tape = w.tape
  output : W.output = w.output
  size : w.heap.size ≤ W.heap.size
  block : ∀ k, k < w.heap.size → k ≠ blk → W.heap[k]? = w.heap[k]?
theorem Bar.cell {w W : World} {blk : Nat} (h : Bar w blk W) {p : Addr} (h1 : p.block < w.heap.size) (h2 : p.block ≠ blk) : W.cell? p = w.cell? p :=
 World.cell?_of_block (h.block _ h1 h2)
theorem Bar.below {w W : World} {blk : Nat} (h : Bar w blk W) {B : Nat} (h1 : B ≤ w.heap.size) (h2 : B ≤ blk) : Below B w W :=
 ⟨h.os, h.tape, h.output, h.size, fun k hk => h.block k (by omega) (by omega)⟩
section
variable {α : Type}
def encF (enc : α → List Value) (d : α) (ds : List α) (i j : Nat) : Value := (enc (ds.getD i d)).getD j (.bool false)
theorem flatG [Inhabited α] (enc : α → List Value) (k : Nat) (d : α) (D : Array α) {j : Nat} (hj : j < D.size * k) (he : ∀ i, i < D.size → ∀ m, m < k → (enc D[i]!)[m]! = encF enc d D.toList i m) :
    (Go.Sort.flatK enc k D)[j]! = encF enc d D.toList (j / k) (j % k) := by
  rw [Go.Sort.get_flatK _ _ _ _ hj]
  have k0 : 0 < k := by rcases Nat.eq_zero_or_pos k with h | h
                        · subst h; simp at hj
                        · exact h
  exact he _ (Nat.div_lt_of_lt_mul (by rw [Nat.mul_comm]; exact hj)) _ (Nat.mod_lt _ k0)
theorem encF_at [Inhabited α] (enc : α → List Value) (k : Nat) (hk : ∀ x, (enc x).length = k) (d : α) (D : Array α) (i : Nat) (hi : i < D.size) (m : Nat) (hm : m < k) : (enc D[i]!)[m]! = encF enc d D.toList i m := by
 have h1 : D.toList.getD i d = D[i]! := by rw [getElem!_pos D i hi]; simp [List.getD, hi]
 unfold encF
 rw [h1]
 have h2 : m < (enc D[i]!).length := by rw [hk]; exact hm
 rw [getElem!_pos _ m h2]
 simp [List.getD, h2]
theorem flatG_list [Inhabited α] (enc : α → List Value) (k : Nat) (hk : ∀ x, (enc x).length = k) (d : α) (D : Array α) : (Go.Sort.flatK enc k D).toList = flatK k D.size (encF enc d D.toList) := by
  apply List.ext_getElem?
  intro j
  by_cases hj : j < D.size * k
  · have k0 : 0 < k := by rcases Nat.eq_zero_or_pos k with h | h
                          · subst h; simp at hj
                          · exact h
    have h2 := flatK_at (f := encF enc d D.toList) (k := k) (i := j / k) (j := j % k) (Nat.div_lt_of_lt_mul (by rw [Nat.mul_comm]; exact hj)) (Nat.mod_lt _ k0)
    rw [Nat.div_add_mod' j k] at h2
    rw [h2, Array.getElem?_toList, ← flatG enc k d D hj (fun i hi m hm => encF_at enc k hk d D i hi m hm), getElem!_pos _ _ (by rw [Go.Sort.size_flatK]; exact hj), Array.getElem?_eq_getElem]
  · rw [List.getElem?_eq_none (by simp; omega), List.getElem?_eq_none (by rw [flatK_len]; omega)]
theorem put_takeG (F c : Array Value) (h : F.size ≤ c.size) : (Go.Sort.putCells id 0 F c).toList.take F.size = F.toList := by
 apply List.ext_getElem?
 intro j
 by_cases hj : j < F.size
 ·rw [List.getElem?_take_of_lt hj, Array.getElem?_toList, Array.getElem?_toList]
  have hc : j < c.size := by omega
  simp [Go.Sort.putCells, hj, hc]
 ·rw [List.getElem?_eq_none (by simp; omega), List.getElem?_eq_none (by simp; omega)]
theorem sorted_heapG [Inhabited α] (enc : α → List Value) (k : Nat) {w : World} {blk m : Nat} {c : Array Value} {e : TypeId} (hb : w.heap[blk]? = some (.cells c e (0, 0))) (d : Array α) (os : Array Obj) :
  (Go.Proofs.sortWorldK enc k w blk 0 m d os).heap[blk]? = some (.cells (Go.Sort.putCells id 0 (Go.Sort.flatK enc k d) c) e (0, 0)) := by
 have hg : blk < w.heap.size := (Array.getElem?_eq_some_iff.1 hb).1
 unfold Go.Proofs.sortWorldK Go.Sort.putRowK
 rw [Go.Sort.heap_grow_old _ _ (by simpa using hg)]
 simp [Go.Sort.putRow, Go.Sort.mapBlock, Go.Sort.ahead, Array.getElem?_modify, hb, Go.Sort.onCells]
theorem sorted_barG [Inhabited α] (enc : α → List Value) (k : Nat) (w : World) (blk m : Nat) (d : Array α) (os : Array Obj) : Bar w blk (Go.Proofs.sortWorldK enc k w blk 0 m d os) := by
 refine ⟨rfl, rfl, rfl, by simp [Go.Proofs.sortWorldK, Go.Sort.putRowK], fun j hj hne => ?_⟩
 unfold Go.Proofs.sortWorldK Go.Sort.putRowK
 rw [Go.Sort.heap_grow_old _ _ (by simpa using hj)]
 have : blk ≠ j := fun e => hne e.symm
 simp [Go.Sort.putRow, Go.Sort.mapBlock, Go.Sort.ahead, Array.getElem?_modify, this]
theorem sort_row {P : Program} {ρ : Ren} (L : SlLaysF0.n6 P ρ) (k : Nat) (aE : ∀ w, (isAgg (ρ.t 24)).run P w = .ok true w) (zE : ∀ w, (Go.sizeOf (ρ.t 24)).run P w = .ok k w) (enc : α → List Value) (hk : ∀ x, (enc x).length = k) (h1 : ∀ x, ∀ v ∈ enc x, v.oneCell' = true)
    (cf : α → α → Int) (hO : Go.Sort.SWO (Go.Proofs.ltOf cf)) (g : Nat) (eg : ∀ args w, (callFunc g args).run P w = .ok (.enter g args) w) (d0 : α) (ds : List α) (base blk n cap : Nat) (e : TypeId) (w : World) (hn : ds.length = n) (hp : 0 < n) (hm : n ≤ 1048576)
    (hrow : w.ownsRow base e k (.slice (some ⟨blk, 0, none⟩) n cap) n (flatK k n (encF enc d0 ds)))
    (hcmp : ∀ W, Bar w blk W → ∀ x ∈ ds, ∀ y ∈ ds, Calls P g #[.agg (enc x).toArray, .agg (enc y).toArray] W (fun e w' => e = .returned (.int .i64 (cf x y)) ∧ Below W.heap.size W w')) :
    Calls P (ρ.f 6) #[.slice (some ⟨blk, 0, none⟩) n cap, .func (.func g) #[] #[]] w fun e' w' =>
      e' = .returned (.tuple #[]) ∧ ∃ ds', ds'.Perm ds ∧ ds'.Pairwise (fun a b => Go.Proofs.ltOf cf b a = false) ∧ w'.ownsRow base e k (.slice (some ⟨blk, 0, none⟩) n cap) n (flatK k n (encF enc d0 ds')) ∧ Bar w blk w' := by
  subst hn
  have hne : ds ≠ [] := by intro h; subst h; simp at hp
  let β := {x // x ∈ ds}
  haveI : Inhabited β := ⟨⟨ds.head hne, List.head_mem hne⟩⟩
  let enc' : β → List Value := fun x => enc x.1
  let cf' : β → β → Int := fun x y => cf x.1 y.1
  let A : Array β := ds.attach.toArray
  have hAs : A.size = ds.length := by show ds.attach.toArray.size = _; rw [List.size_toArray, List.length_attach]
  have hAm : A.toList.map (·.1) = ds := by show ds.attach.toArray.toList.map _ = _; exact List.attach_map_subtype_val ds
  have hk' : ∀ x, (enc' x).length = k := fun x => hk x.1
  have hO' : Go.Sort.SWO (Go.Proofs.ltOf cf') := ⟨fun x => hO.irrefl x.1, fun x y z => hO.trans x.1 y.1 z.1, fun x y z => hO.ntrans x.1 y.1 z.1⟩
  have hff : ∀ D : Array β, D.size = ds.length → flatK k ds.length (encF enc' ⟨ds.head hne, List.head_mem hne⟩ D.toList) = flatK k ds.length (encF enc d0 (D.toList.map (·.1))) := fun D hD => by
    apply List.ext_getElem?
    intro j
    by_cases hj : j < ds.length * k
    · have k0 : 0 < k := by rcases Nat.eq_zero_or_pos k with h | h
                            · subst h; simp at hj
                            · exact h
      have hd : j / k < ds.length := Nat.div_lt_of_lt_mul (by rw [Nat.mul_comm]; exact hj)
      have a1 := flatK_at (f := encF enc' ⟨ds.head hne, List.head_mem hne⟩ D.toList) (k := k) (i := j / k) (j := j % k) hd (Nat.mod_lt _ k0)
      have a2 := flatK_at (f := encF enc d0 (D.toList.map (·.1))) (k := k) (i := j / k) (j := j % k) hd (Nat.mod_lt _ k0)
      rw [Nat.div_add_mod' j k] at a1 a2
      rw [a1, a2]
      unfold encF
      have hd' : j / k < D.toList.length := by simpa [hD] using hd
      simp [List.getD, enc', hD, hd]
    · rw [List.getElem?_eq_none (by rw [flatK_len]; omega), List.getElem?_eq_none (by rw [flatK_len]; omega)]
  have eg' := eg
  rcases hrow.2 with ⟨e1, -⟩ | ⟨g1, cap1, cur, e1, hb, hheap, hcn, hcm, hsz, htake⟩
  · cases e1
  · cases e1
    have hblk : blk < w.heap.size := (Array.getElem?_eq_some_iff.1 hheap).1
    have hH : Go.Sort.HoldsK enc' k w blk 0 A := by
      intro j hj
      rw [Go.Sort.size_flatK, hAs] at hj
      have k0 : 0 < k := by rcases Nat.eq_zero_or_pos k with h | h
                            · subst h; simp at hj
                            · exact h
      have hd : j / k < ds.length := Nat.div_lt_of_lt_mul (by rw [Nat.mul_comm]; exact hj)
      rw [Nat.zero_add, flatG enc' k ⟨ds.head hne, List.head_mem hne⟩ A (by rw [hAs]; exact hj) (fun i hi m hm => encF_at enc' k hk' _ A i hi m hm)]
      have h3 := flatK_at (f := encF enc d0 ds) (k := k) (i := j / k) (j := j % k) hd (Nat.mod_lt _ k0)
      have h4 := flatK_at (f := encF enc' ⟨ds.head hne, List.head_mem hne⟩ A.toList) (k := k) (i := j / k) (j := j % k) hd (Nat.mod_lt _ k0)
      rw [hff A hAs, hAm, h3] at h4
      rw [← Option.some.inj h4]
      rw [Nat.div_add_mod' j k, ← htake, List.getElem?_take_of_lt hj, Array.getElem?_toList] at h3
      refine ⟨?_, ?_⟩
      · show World.cell? w ⟨blk, j, none⟩ = some _
        simp only [World.cell?, hheap, id]
        simp [h3]
      · simp [World.frozen?, hheap]
    have hcl : Go.Proofs.CmpLays P g #[] enc' k cf' blk 0 A.size w := fun m os dk hdk x y =>
      Dr.calls_grows (hcmp _ (sorted_barG enc' k w blk m dk os) x.1 x.2 y.1 y.2)
    have hcon := AnyQ.slices_SortFunc L k aE zE enc' hk' (fun x v hv => h1 x.1 v hv) cf' hO' g #[] blk 0 cap A w eg' hcl hH hblk (by rw [hAs]; omega)
    rw [hAs] at hcon
    refine hcon.mono ?_
    rintro e' w' ⟨he, D, m, os, hp1, hs, rfl⟩
    have hDs : D.size = ds.length := hp1.1.trans hAs
    have hperm : D.toList.Perm A.toList := by
      have h1 := hp1.2.2
      rw [Array.extract_eq_self_of_le (by omega), Array.extract_eq_self_of_le (by omega)] at h1
      exact h1
    refine ⟨he, D.toList.map (·.1), ?_, ?_, ?_, sorted_barG enc' k w blk m D os⟩
    · have := hperm.map (fun x : β => x.1)
      rwa [hAm] at this
    · rw [List.pairwise_iff_getElem]
      intro i j hi hj hij
      have hi' : i < D.size := by simpa using hi
      have hj' : j < D.size := by simpa using hj
      have := hs i j (Nat.zero_le _) hij (by omega)
      rw [getElem!_pos D i hi', getElem!_pos D j hj'] at this
      simpa [Go.Proofs.ltOf, cf'] using this
    · refine ⟨flatK_len _ _ _, .inr ⟨blk, cap, _, rfl, hb, sorted_heapG enc' k hheap D os, hcn, hcm, by simp [Go.Sort.putCells, hsz], ?_⟩⟩
      have h1 := put_takeG (Go.Sort.flatK enc' k D) cur (by rw [Go.Sort.size_flatK, hDs, hsz]; exact Nat.mul_le_mul_right _ hcn)
      rw [Go.Sort.size_flatK, hDs] at h1
      rw [h1, flatG_list enc' k hk' ⟨ds.head hne, List.head_mem hne⟩ D, hDs, hff D hDs]
end
end Go.Proofs.YthblaeleogdfpaaGreatDoor

namespace Go.Proofs.YthblaeleogdfpaaGreatDoor
open Go.RowKit
def orZ (x y : Int) : Int := if x ≠ 0 then x else y
set_option maxHeartbeats 1000000 in
theorem lib_Or2 (x y : Int) (b c : Nat) (w : World) (h0 : w.cell? ⟨b, 0, none⟩ = some (.int .i64 x)) (h1 : w.cell? ⟨b, 1, none⟩ = some (.int .i64 y)) :
  Calls Tryz.prog 81 #[.slice (some ⟨b, 0, none⟩) 2 c] w fun e w' => e = .returned (.int .i64 (orZ x y)) ∧ w = w' := by
 have HC : Hid (orZ x y = if x ≠ 0 then x else y) := hid rfl
 generalize orZ x y = z at *
 go_enter Tryz.func81, Tryz.ntmps81
 by_cases hx : x = 0
 ·subst hx
  by_cases hy : y = 0
  ·subst hy
   go_wp2
   refine wp_loop_rounds 3 ?_
   rw [rounds_succ]
   go_wp2
   rw [rounds_succ]
   go_wp2
   rw [rounds_succ]
   go_wp2
   go_ret
   exact ⟨ret_int (by rw [HC.out]; simp), rfl⟩
  ·have hy1 : (y != 0) = true := by simpa using hy
   go_wp2
   refine wp_loop_rounds 3 ?_
   rw [rounds_succ]
   go_wp2
   rw [rounds_succ]
   go_wp2
   go_ret
   exact ⟨ret_int (by rw [HC.out]; simp), rfl⟩
 ·have hx1 : (x != 0) = true := by simpa using hx
  go_wp2
  refine wp_loop_rounds 3 ?_
  rw [rounds_succ]
  go_wp2
  go_ret
  exact ⟨ret_int (by rw [HC.out]; simp [hx]), rfl⟩
structure Mh where
  id : Int
  al : Option Addr × Nat × Nat
  nu : Option Addr × Nat
  de : Option Addr × Nat
  p : Nat
  q : Nat
instance : Inhabited Mh := ⟨⟨0, (none, 0, 0), (none, 0), (none, 0), 0, 1⟩⟩
def Mh.fr (m : Mh) : Value := .agg #[.bool false, .slice m.nu.1 (Fr.dig m.p).length m.nu.2, .bool false, .slice m.de.1 (Fr.dig m.q).length m.de.2]
def encM (m : Mh) : List Value := [.int .i64 m.id, .slice m.al.1 m.al.2.1 m.al.2.2, .bool false, .slice m.nu.1 (Fr.dig m.p).length m.nu.2, .bool false, .slice m.de.1 (Fr.dig m.q).length m.de.2]
def cfM (m1 m2 : Mh) : Int := orZ (Fr.sgn (m2.p * m1.q) (m1.p * m2.q)) (Fr.isgn m1.id m2.id)
set_option maxRecDepth 100000 in
set_option maxHeartbeats 4000000 in
theorem us_Compare (m1 m2 : Mh) (w : World) (h1 : Fr.RdF w m1.fr false m1.p m1.q) (h2 : Fr.RdF w m2.fr false m2.p m2.q) (s1 : Fr.Sml m1.p m1.q) (s2 : Fr.Sml m2.p m2.q) (ho : Fr.OneAt w) :
  Calls Tryz.prog 90 #[.agg (encM m1).toArray, .agg (encM m2).toArray] w (fun e w' => e = .returned (.int .i64 (cfM m1 m2)) ∧ Below w.heap.size w w') := by
 have HSC := hid (fun W (hW : Below w.heap.size w W) => Fr.lists_Scores m1.fr m2.fr m1.p m1.q m2.p m2.q W (h1.kept hW) (h2.kept hW) s1 s2 (ho.below hW))
 have HCM := hid (fun W => Fr.Compare_int m1.id m2.id W)
 unfold Mh.fr at HSC
 show Calls Tryz.prog 90 #[.agg #[.int .i64 m1.id, .slice m1.al.1 m1.al.2.1 m1.al.2.2, .bool false, .slice m1.nu.1 (Fr.dig m1.p).length m1.nu.2, .bool false, .slice m1.de.1 (Fr.dig m1.q).length m1.de.2], .agg #[.int .i64 m2.id, .slice m2.al.1 m2.al.2.1 m2.al.2.2, .bool false, .slice m2.nu.1 (Fr.dig m2.p).length m2.nu.2, .bool false, .slice m2.de.1 (Fr.dig m2.q).length m2.de.2]] w _
 have HCF : Hid (cfM m1 m2 = orZ (Fr.sgn (m2.p * m1.q) (m1.p * m2.q)) (Fr.isgn m1.id m2.id)) := hid rfl
 clear h1 h2 s1 s2 ho
 generalize cfM m1 m2 = cf at *
 generalize Fr.sgn (m2.p * m1.q) (m1.p * m2.q) = sg at *
 generalize Fr.isgn m1.id m2.id = ig at *
 generalize (Fr.dig m1.p).length = l1 at *
 generalize (Fr.dig m1.q).length = k1 at *
 generalize (Fr.dig m2.p).length = l2 at *
 generalize (Fr.dig m2.q).length = k2 at *
 have HX1 := hid ((BoxN.new w #[.int .i64 m1.id, .slice m1.al.1 m1.al.2.1 m1.al.2.2, .bool false, .slice m1.nu.1 l1 m1.nu.2, .bool false, .slice m1.de.1 k1 m1.de.2] 135).alloc (.cells #[.int .i64 m2.id, .slice m2.al.1 m2.al.2.1 m2.al.2.2, .bool false, .slice m2.nu.1 l2 m2.nu.2, .bool false, .slice m2.de.1 k2 m2.de.2] 135))
 have hx2 := BoxN.new (w.alloc (.cells #[.int .i64 m1.id, .slice m1.al.1 m1.al.2.1 m1.al.2.2, .bool false, .slice m1.nu.1 l1 m1.nu.2, .bool false, .slice m1.de.1 k1 m1.de.2] 135)) #[.int .i64 m2.id, .slice m2.al.1 m2.al.2.1 m2.al.2.2, .bool false, .slice m2.nu.1 l2 m2.nu.2, .bool false, .slice m2.de.1 k2 m2.de.2] 135
 rw [World.size_alloc] at hx2
 have HX2 := hid hx2
 have HB0 := hid (((Below.refl w.heap.size w).alloc (Nat.le_refl _) (.cells #[.int .i64 m1.id, .slice m1.al.1 m1.al.2.1 m1.al.2.2, .bool false, .slice m1.nu.1 l1 m1.nu.2, .bool false, .slice m1.de.1 k1 m1.de.2] 135)).alloc (by simp) (.cells #[.int .i64 m2.id, .slice m2.al.1 m2.al.2.1 m2.al.2.2, .bool false, .slice m2.nu.1 l2 m2.nu.2, .bool false, .slice m2.de.1 k2 m2.de.2] 135))
 clear hx2
 go_enter Tryz.func90, Tryz.ntmps90
 go_upto_region 1 with fail
 generalize (w.alloc (.cells #[.int .i64 m1.id, .slice m1.al.1 m1.al.2.1 m1.al.2.2, .bool false, .slice m1.nu.1 l1 m1.nu.2, .bool false, .slice m1.de.1 k1 m1.de.2] 135)).alloc (.cells #[.int .i64 m2.id, .slice m2.al.1 m2.al.2.1 m2.al.2.2, .bool false, .slice m2.nu.1 l2 m2.nu.2, .bool false, .slice m2.de.1 k2 m2.de.2] 135) = W0 at *
 have HG := hid (fun W (hW : Below W0.heap.size W0 W) => (⟨(HX1.out.below hW HX1.out.lt).cell 0 rfl, (HX1.out.below hW HX1.out.lt).cell 2 rfl, (HX1.out.below hW HX1.out.lt).cell 3 rfl, (HX1.out.below hW HX1.out.lt).cell 4 rfl, (HX1.out.below hW HX1.out.lt).cell 5 rfl, (HX2.out.below hW HX2.out.lt).cell 0 rfl, (HX2.out.below hW HX2.out.lt).cell 2 rfl, (HX2.out.below hW HX2.out.lt).cell 3 rfl, (HX2.out.below hW HX2.out.lt).cell 4 rfl, (HX2.out.below hW HX2.out.lt).cell 5 rfl⟩ : W.cell? ⟨w.heap.size, 0, none⟩ = some (.int .i64 m1.id) ∧ W.cell? ⟨w.heap.size, 2, none⟩ = some (.bool false) ∧ W.cell? ⟨w.heap.size, 3, none⟩ = some (.slice m1.nu.1 l1 m1.nu.2) ∧ W.cell? ⟨w.heap.size, 4, none⟩ = some (.bool false) ∧ W.cell? ⟨w.heap.size, 5, none⟩ = some (.slice m1.de.1 k1 m1.de.2) ∧ W.cell? ⟨w.heap.size + 1, 0, none⟩ = some (.int .i64 m2.id) ∧ W.cell? ⟨w.heap.size + 1, 2, none⟩ = some (.bool false) ∧ W.cell? ⟨w.heap.size + 1, 3, none⟩ = some (.slice m2.nu.1 l2 m2.nu.2) ∧ W.cell? ⟨w.heap.size + 1, 4, none⟩ = some (.bool false) ∧ W.cell? ⟨w.heap.size + 1, 5, none⟩ = some (.slice m2.de.1 k2 m2.de.2)))
 have HC := hid (show Below W0.heap.size W0 W0.drew by have h1 := Below.refl W0.heap.size W0; repeat' (first | (with_reducible exact Below.refl _ _) | (with_reducible assumption) | (with_reducible refine below_drewN ?_) | (with_reducible refine Below.alloc ?_ ?_ _) | (with_reducible refine Below.drew ?_) | (with_reducible refine Below.setCell ?_ ?_ _) | (with_reducible refine Below.trans ?_ (Below.mono (by with_reducible assumption) ?_)) | go_size))
 go_region_held3 (fun w' => w'.cell? ⟨w.heap.size, 0, none⟩ = some (.int .i64 m1.id) ∧ w'.cell? ⟨w.heap.size, 2, none⟩ = some (.bool false) ∧ w'.cell? ⟨w.heap.size, 3, none⟩ = some (.slice m1.nu.1 l1 m1.nu.2) ∧ w'.cell? ⟨w.heap.size, 4, none⟩ = some (.bool false) ∧ w'.cell? ⟨w.heap.size, 5, none⟩ = some (.slice m1.de.1 k1 m1.de.2) ∧ w'.cell? ⟨w.heap.size + 1, 0, none⟩ = some (.int .i64 m2.id) ∧ w'.cell? ⟨w.heap.size + 1, 2, none⟩ = some (.bool false) ∧ w'.cell? ⟨w.heap.size + 1, 3, none⟩ = some (.slice m2.nu.1 l2 m2.nu.2) ∧ w'.cell? ⟨w.heap.size + 1, 4, none⟩ = some (.bool false) ∧ w'.cell? ⟨w.heap.size + 1, 5, none⟩ = some (.slice m2.de.1 k2 m2.de.2))
  (first | exact HG.out _ HC.out | exact HG.out _ (HC.out.alloc HC.out.size _) | go_keep)
  (first
   | (go_at_call 138; go_must ((with_reducible refine (HSC.out _ (Fr.belowT HB0.out HC.out)).mono ?_); rintro e w5 ⟨rfl, hb5⟩; have HC := hid (Fr.belowT HC.out hb5); clear hb5))
   | (go_at_call 139; go_must ((with_reducible refine (HCM.out _).mono ?_); rintro e w6 ⟨rfl, rfl⟩))
   | (go_at_call 81; go_must ((with_reducible refine (lib_Or2 sg ig _ _ _ (by go_cell) (by go_cell)).mono ?_); rintro e w7 ⟨rfl, rfl⟩)))
 all_goals
  go_wp2
  go_ret
  exact ⟨by rw [HCF.out]; rfl, by have h1 := Fr.belowT HB0.out HC.out; have h2 := h1.size; repeat' (first | (with_reducible exact Below.refl _ _) | (with_reducible assumption) | (with_reducible refine below_drewN ?_) | (with_reducible refine Below.alloc ?_ ?_ _) | (with_reducible refine Below.drew ?_) | (with_reducible refine Below.setCell ?_ ?_ _) | (with_reducible refine Below.trans ?_ (Below.mono (by with_reducible assumption) ?_)) | go_size)⟩
end Go.Proofs.YthblaeleogdfpaaGreatDoor

namespace Go.Proofs.YthblaeleogdfpaaGreatDoor
open Go.RowKit Go.Shelf
theorem rd32_bar {w W : World} {v : Value} {xs : List Nat} {blk : Nat} (h : Fr.Rd32 w v xs) (hb : Bar w blk W) (ho : Fr.Off blk v) : Fr.Rd32 W v xs := by
 obtain ⟨a, c, rfl, h1, h2, h3, h4⟩ := h
 refine ⟨a, c, rfl, h1, h2, h3, fun hp => ?_⟩
 obtain ⟨b, o, rfl, hlt, hcell⟩ := h4 hp
 have hne : b ≠ blk := ho ⟨b, o, none⟩ _ _ rfl hp
 exact ⟨b, o, rfl, Nat.lt_of_lt_of_le hlt hb.size, fun i hi => (hb.cell (p := ⟨b, o + i, none⟩) hlt hne).trans (hcell i hi)⟩
def leM (x y : Mh) : Prop := x.p * y.q ≤ y.p * x.q
theorem leM_trans {x y z : Mh} (hq : 0 < y.q) (h1 : leM x y) (h2 : leM y z) : leM x z := by
 unfold leM at *
 refine Nat.le_of_mul_le_mul_right ?_ hq
 calc x.p * z.q * y.q = x.p * y.q * z.q := by rw [Nat.mul_right_comm]
  _ ≤ y.p * x.q * z.q := Nat.mul_le_mul_right _ h1
  _ = y.p * z.q * x.q := by rw [Nat.mul_right_comm]
  _ ≤ z.p * y.q * x.q := Nat.mul_le_mul_right _ h2
  _ = z.p * x.q * y.q := by rw [Nat.mul_right_comm]
theorem leM_total (x y : Mh) : leM x y ∨ leM y x := Nat.le_total _ _
theorem leM_refl (x : Mh) : leM x x := Nat.le_refl _
def Mq := {m : Mh // 0 < m.q}
instance : Inhabited Mq := ⟨⟨default, by decide⟩⟩
def cfQ (x y : Mq) : Int := cfM x.1 y.1
theorem ltQ (x y : Mq) : Go.Proofs.ltOf cfQ x y = true ↔ ¬ leM x.1 y.1 ∨ (leM x.1 y.1 ∧ leM y.1 x.1 ∧ x.1.id < y.1.id) := by
 have hid : (Fr.isgn x.1.id y.1.id < 0) ↔ x.1.id < y.1.id := by unfold Fr.isgn; split <;> (try split) <;> omega
 unfold Go.Proofs.ltOf cfQ cfM leM orZ
 rw [decide_eq_true_iff]
 rcases Nat.lt_trichotomy (y.1.p * x.1.q) (x.1.p * y.1.q) with h | h | h
 ·rw [Fr.sgn_lt h]; simp; omega
 ·rw [h, Fr.sgn_self]; simp [hid]
 ·rw [Fr.sgn_gt h]; simp; omega
theorem ltQ_false (x y : Mq) : Go.Proofs.ltOf cfQ x y = false ↔ leM x.1 y.1 ∧ (leM y.1 x.1 → y.1.id ≤ x.1.id) := by
 rw [← Bool.not_eq_true, ltQ]
 constructor
 ·intro h
  refine ⟨Classical.byContradiction fun h1 => h (.inl h1), fun h2 => ?_⟩
  have h1 : leM x.1 y.1 := Classical.byContradiction fun h1 => h (.inl h1)
  have : ¬ x.1.id < y.1.id := fun h3 => h (.inr ⟨h1, h2, h3⟩)
  omega
 ·rintro ⟨h1, h2⟩ (h3 | ⟨-, h4, h5⟩)
  ·exact h3 h1
  ·have := h2 h4; omega
theorem swoQ : Go.Sort.SWO (Go.Proofs.ltOf cfQ) where
 irrefl x := by rw [ltQ_false]; exact ⟨leM_refl _, fun _ => Int.le_refl _⟩
 trans x y z h1 h2 := by
  rw [ltQ] at *
  rcases h1 with h1 | ⟨a1, a2, a3⟩
  ·refine .inl fun hxz => h1 ?_
   rcases h2 with h2 | ⟨b1, b2, -⟩
   ·exact leM_trans z.2 hxz ((leM_total y.1 z.1).resolve_left h2)
   ·exact leM_trans z.2 hxz b2
  ·rcases h2 with h2 | ⟨b1, b2, b3⟩
   ·exact .inl fun hxz => h2 (leM_trans x.2 a2 hxz)
   ·exact .inr ⟨leM_trans y.2 a1 b1, leM_trans y.2 b2 a2, by omega⟩
 ntrans x y z h1 h2 := by
  rw [ltQ_false] at *
  refine ⟨leM_trans y.2 h1.1 h2.1, fun h3 => ?_⟩
  have a := h1.2 (leM_trans z.2 h2.1 h3)
  have b := h2.2 (leM_trans x.2 h3 h1.1)
  omega
def encQ (x : Mq) : List Value := encM x.1
structure GoodM (w : World) (blk : Nat) (m : Mh) : Prop where
  nu : Fr.Rd32 w (.slice m.nu.1 (Fr.dig m.p).length m.nu.2) (Fr.dig m.p)
  de : Fr.Rd32 w (.slice m.de.1 (Fr.dig m.q).length m.de.2) (Fr.dig m.q)
  onu : Fr.Off blk (.slice m.nu.1 (Fr.dig m.p).length m.nu.2)
  ode : Fr.Off blk (.slice m.de.1 (Fr.dig m.q).length m.de.2)
  sml : Fr.Sml m.p m.q
theorem GoodM.rd {w W : World} {blk : Nat} {m : Mh} (h : GoodM w blk m) (hb : Bar w blk W) : Fr.RdF W m.fr false m.p m.q :=
 ⟨_, _, _, _, rfl, rd32_bar h.nu hb h.onu, rd32_bar h.de hb h.ode⟩
end Go.Proofs.YthblaeleogdfpaaGreatDoor

namespace Go.Proofs.YthblaeleogdfpaaGreatDoor
open Go.RowKit Go.Shelf
theorem info_match : (Tryz.prog.info? 135).map (fun i => (i.zero, i.size, i.bytes)) = some (some (.agg #[.int .i64 0, .slice none 0 0, .bool false, .slice none 0 0, .bool false, .slice none 0 0]), 6, 96) := by kernel_rfl
def FL (ds : List Mq) : List Value := ds.flatMap fun x => encM x.1
theorem FL_append (a b : List Mq) : FL (a ++ b) = FL a ++ FL b := by simp [FL]
theorem FL_one (x : Mq) : FL [x] = encM x.1 := by simp [FL]
theorem FL_len : ∀ (ds : List Mq), (FL ds).length = ds.length * 6
 | [] => rfl
 | x :: l => by
  have h : FL (x :: l) = encM x.1 ++ FL l := rfl
  rw [h, List.length_append, FL_len l]
  simp [encM]
  omega
theorem FL_enc_take (ds : List Mq) : ∀ n, n ≤ ds.length → flatK 6 n (encF encQ default ds) = FL (ds.take n)
 | 0, _ => by simp [flatK, FL]
 | n + 1, h => by
  have hn : n < ds.length := h
  have e : ds.getD n default = ds[n] := by simp [List.getD, hn]
  rw [flatK_succ, FL_enc_take ds n (by omega), List.take_succ_eq_append_getElem hn, FL_append, FL_one]
  congr 1
  unfold encF
  rw [e]
  simp [List.range_succ, encQ, encM]
theorem FL_enc (ds : List Mq) : flatK 6 ds.length (encF encQ default ds) = FL ds := by
 rw [FL_enc_take ds _ (Nat.le_refl _), List.take_length]
theorem FL_put (ds : List Mq) (k : Nat) (x : Mq) : FL (putI ds k x) = FL (ds.take k) ++ encM x.1 ++ FL (ds.drop k) := by
 unfold putI
 rw [show x :: ds.drop k = [x] ++ ds.drop k from rfl, FL_append, FL_append, FL_one, List.append_assoc]
theorem FL_take {ds : List Mq} {k j : Nat} {u : Value} (h : (FL (ds.take k))[j]? = some u) : (FL ds)[j]? = some u := by
 have hj := (List.getElem?_eq_some_iff.1 h).1
 rw [← List.take_append_drop k ds, FL_append, List.getElem?_append_left hj]
 exact h
theorem FL_drop {ds : List Mq} {k j : Nat} {u : Value} (hk : k ≤ ds.length) (h : (FL (ds.drop k))[j]? = some u) : (FL ds)[k * 6 + j]? = some u := by
 have e : (FL (ds.take k)).length = k * 6 := by rw [FL_len, List.length_take]; congr 1; omega
 rw [← List.take_append_drop k ds, FL_append, List.getElem?_append_right (by rw [e]; omega), e, Nat.add_sub_cancel_left]
 exact h
theorem FL_at {ds : List Mq} {i j : Nat} (hi : i < ds.length) (hj : j < 6) : (FL ds)[i * 6 + j]? = some (encF encQ default ds i j) := by
 have h : (FL (ds.drop i))[j]? = some (encF encQ default ds i j) := by
  rw [List.drop_eq_getElem_cons hi, show ds[i] :: ds.drop (i + 1) = [ds[i]] ++ ds.drop (i + 1) from rfl, FL_append, FL_one, List.getElem?_append_left (by simp [encM]; omega)]
  have e : ds.getD i default = ds[i] := by simp [List.getD, hi]
  unfold encF
  rw [e]
  rcases (by omega : j = 0 ∨ j = 1 ∨ j = 2 ∨ j = 3 ∨ j = 4 ∨ j = 5) with rfl | rfl | rfl | rfl | rfl | rfl <;> rfl
 exact FL_drop (by omega) h
theorem FL_one' (ds : List Mq) : ∀ u ∈ FL ds, u.oneCell' = true := by
 intro u hu
 obtain ⟨x, -, hx⟩ := List.mem_flatMap.1 hu
 simp [encM] at hx
 rcases hx with rfl | rfl | rfl | rfl | rfl | rfl <;> rfl
structure MtOk (W : World) (ts : List Ta) (qc : List Co) (m : Mh) : Prop where
  fp : m.p = tpP qc (tabI ts m.id)
  fq : m.q = tpQ qc (tabI ts m.id)
  rd : Fr.RdF W m.fr false m.p m.q
  sm : Fr.Sml m.p m.q
  al : InK 1 W (· < W.heap.size) (.slice m.al.1 m.al.2.1 m.al.2.2) (alignL qc (tabI ts m.id).cols).length (fun j _ => .int .i64 (((alignL qc (tabI ts m.id).cols).getD j 0 : Nat) : Int))
theorem MtOk.later {W W' : World} {ts : List Ta} {qc : List Co} {m : Mh} (h : MtOk W ts qc m) (hb : Below W.heap.size W W') : MtOk W' ts qc m :=
 ⟨h.fp, h.fq, h.rd.kept hb, h.sm, (h.al.keep fun p (hp : p.block < W.heap.size) => hb.cell (p := p) hp).more fun b (hl : b < W.heap.size) => Nat.lt_of_lt_of_le hl hb.size⟩
def RdM (W : World) (ts : List Ta) (qc : List Co) (v : Value) (I : List Int) : Prop :=
  ∃ ds : List Mq, InK 6 W (· < W.heap.size) v ds.length (encF encQ default ds) ∧ ds.map (fun x => x.1.id) = I ∧ ∀ x ∈ ds, MtOk W ts qc x.1
theorem RdM.later {W W' : World} {ts : List Ta} {qc : List Co} {v : Value} {I : List Int} (h : RdM W ts qc v I) (hb : Below W.heap.size W W') : RdM W' ts qc v I := by
 obtain ⟨ds, h1, h2, h3⟩ := h
 exact ⟨ds, (h1.keep fun p (hp : p.block < W.heap.size) => hb.cell (p := p) hp).more fun b (hl : b < W.heap.size) => Nat.lt_of_lt_of_le hl hb.size, h2, fun x hx => (h3 x hx).later hb⟩
theorem RdM.none (W : World) (ts : List Ta) (qc : List Co) : RdM W ts qc (.slice Option.none 0 0) [] := ⟨[], ⟨Option.none, 0, rfl, Nat.le_refl _, by simp [maxLen], fun h => absurd h (by simp)⟩, rfl, fun x hx => by cases hx⟩
theorem inK_front {k : Nat} {w : World} {S : Nat → Prop} {a : Option Addr} {n c m : Nat} {f : Nat → Nat → Value} (h : InK k w S (.slice a n c) n f) (hm : m ≤ n) : InK k w S (.slice a m c) m f := by
 obtain ⟨a', c', e, h1, h2, h3⟩ := h
 obtain ⟨rfl, -, rfl⟩ := Value.slice.inj e
 refine ⟨_, _, rfl, Nat.le_trans hm h1, h2, fun hp => ?_⟩
 obtain ⟨b, o, e2, hb, hc⟩ := h3 (by omega)
 exact ⟨b, o, e2, hb, fun i hi => hc i (by omega)⟩
theorem RdM.front {W : World} {ts : List Ta} {qc : List Co} {a : Option Addr} {n c m : Nat} {ds : List Mq} (hn : ds.length = n) (h1 : InK 6 W (· < W.heap.size) (.slice a n c) n (encF encQ default ds)) (h3 : ∀ x ∈ ds, MtOk W ts qc x.1) (hm : m ≤ n) :
  RdM W ts qc (.slice a m c) ((ds.map (fun x => x.1.id)).take m) := by
 have hl : (ds.take m).length = m := by rw [List.length_take]; omega
 refine ⟨ds.take m, ?_, by rw [List.map_take], fun x hx => h3 x (List.mem_of_mem_take hx)⟩
 rw [hl]
 refine (inK_front h1 hm).congr fun i hi j hj => ?_
 unfold encF
 rw [show (ds.take m).getD i default = ds.getD i default by simp [List.getD, List.getElem?_take, hi]]
theorem inK_ints_own {w : World} {base : Nat} {e : TypeId} {v : Value} {n : Nat} {L : List Nat} (h : w.ownsRow base e 1 v n (intsV L)) (hn : L.length = n) : InK 1 w (fun b => base ≤ b ∧ b < w.heap.size) v n (fun j _ => .int .i64 ((L.getD j 0 : Nat) : Int)) := by
 obtain ⟨a, c, rfl⟩ := own_slice h
 obtain ⟨hc, hm⟩ := own_capsA h
 refine ⟨a, c, rfl, hc, hm, fun hp => ?_⟩
 obtain ⟨g, cap, e3, hg, hgz⟩ := h.form hp
 obtain ⟨rfl, -, rfl⟩ := Value.slice.inj e3
 refine ⟨g, 0, rfl, ⟨hg, hgz⟩, fun i hi j hj => ?_⟩
 obtain rfl : j = 0 := by omega
 have h1 := h.cellAt i (by omega)
 rw [Nat.zero_add, Nat.mul_one, Nat.add_zero, h1]
 simp [intsV, List.getD, show i < L.length by omega]
theorem mh_sortS (ds : List Mq) (base blk n cap : Nat) (w : World) (hn : ds.length = n) (hp : 0 < n) (hm : n ≤ 1048576) (hrow : w.ownsRow base 135 6 (.slice (some ⟨blk, 0, none⟩) n cap) n (flatK 6 n (encF encQ default ds)))
  (hg : ∀ x ∈ ds, GoodM w blk x.1) (ho : ∀ W, Bar w blk W → Fr.OneAt W) :
  Calls Tryz.prog 137 #[.slice (some ⟨blk, 0, none⟩) n cap, .func (.func 90) #[] #[]] w fun e' w' =>
   e' = .returned (.tuple #[]) ∧ ∃ ds' : List Mq, ds'.Perm ds ∧ ds'.Pairwise (fun a b => leM b.1 a.1 ∧ (leM a.1 b.1 → a.1.id ≤ b.1.id)) ∧ w'.ownsRow base 135 6 (.slice (some ⟨blk, 0, none⟩) n cap) n (flatK 6 n (encF encQ default ds')) ∧ Bar w blk w' := by
 have eg : ∀ args w, (callFunc 90 args).run Tryz.prog w = .ok (.enter 90 args) w := enters_of Tryz.func90 (by kernel_rfl) rfl
 refine (sort_row Tryz.sortMatch 6 Tryz.isAgg135 Tryz.sizeOf135 encQ (fun _ => rfl) (fun x v hv => by simp [encQ, encM] at hv; rcases hv with rfl | rfl | rfl | rfl | rfl | rfl <;> rfl) cfQ swoQ 90 eg default ds base blk n cap 135 w hn hp hm hrow
  (fun W hW x hx y hy => us_Compare x.1 y.1 W ((hg x hx).rd hW) ((hg y hy).rd hW) (hg x hx).sml (hg y hy).sml (ho W hW))).mono ?_
 rintro e w' ⟨h1, ds', h2, h3, h4, h5⟩
 exact ⟨h1, ds', h2, h3.imp fun h => (ltQ_false _ _).1 h, h4, h5⟩
theorem lists_FirstX (ds : List Mq) (base blk n cap k : Nat) (w : World) (hn : ds.length = n) (hp : 0 < n) (hm : n ≤ 1048576) (hk2 : k ≤ 1048576) (hrow : w.ownsRow base 135 6 (.slice (some ⟨blk, 0, none⟩) n cap) n (flatK 6 n (encF encQ default ds)))
  (hg : ∀ x ∈ ds, GoodM w blk x.1) (ho : ∀ W, Bar w blk W → Fr.OneAt W) :
  Calls Tryz.prog 89 #[.slice (some ⟨blk, 0, none⟩) n cap, .int .i64 (k : Int), .func (.func 90) #[] #[]] w fun e' w' =>
   e' = .returned (.slice (some ⟨blk, 0, none⟩) (min k n) cap) ∧ ∃ ds' : List Mq, ds'.Perm ds ∧ ds'.Pairwise (fun a b => leM b.1 a.1 ∧ (leM a.1 b.1 → a.1.id ≤ b.1.id)) ∧ w'.ownsRow base 135 6 (.slice (some ⟨blk, 0, none⟩) n cap) n (flatK 6 n (encF encQ default ds')) ∧ Bar w blk w' := by
 have HS := hid (mh_sortS ds base blk n cap w hn hp hm hrow hg ho)
 have hcap : n ≤ cap ∧ cap ≤ maxLen := by
  rcases hrow.2 with ⟨e1, -⟩ | ⟨g, c1, cur, e1, hb, hheap, hcn, hcm, -, -⟩
  ·cases e1
  ·cases e1
   exact ⟨hcn, hcm⟩
 obtain ⟨hc1, hc2⟩ := hcap
 unfold maxLen at hc2
 obtain ⟨m, hmd⟩ : ∃ m, min k n = m := ⟨_, rfl⟩
 have hmm : min (k : Int) (n : Int) = (m : Int) := by omega
 have hm1 : (m : Int) ≤ (cap : Int) := by omega
 have hm2 : m ≤ cap := by omega
 rw [hmd]
 clear hrow hg ho hmd
 go_enter Tryz.func89, Tryz.ntmps89
 go_wp2_with fail
 with_reducible refine HS.out.mono ?_
 rintro e w1 ⟨rfl, ds', h1, h2, h3, h4⟩
 have HF := hid (show ∃ ds' : List Mq, ds'.Perm ds ∧ ds'.Pairwise (fun a b => leM b.1 a.1 ∧ (leM a.1 b.1 → a.1.id ≤ b.1.id)) ∧ w1.ownsRow base 135 6 (.slice (some ⟨blk, 0, none⟩) n cap) n (flatK 6 n (encF encQ default ds')) ∧ Bar w blk w1 from ⟨ds', h1, h2, h3, h4⟩)
 clear h1 h2 h3 h4
 go_wp2
 go_ret
 exact ⟨rfl, HF.out⟩
end Go.Proofs.YthblaeleogdfpaaGreatDoor
