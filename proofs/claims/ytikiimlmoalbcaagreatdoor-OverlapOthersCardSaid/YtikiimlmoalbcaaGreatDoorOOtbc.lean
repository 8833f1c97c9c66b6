/- The library's iterator over a slice of numbers, and what collects and sorts it: slices.Sorted(slices.Values(..)). DERIVED: THE SHELF's CONTRACTS AT THIS DUMP, IN PLAIN WORDS (tools/lay-plain.mjs out of 'YtikiimlmoalbcaaGreatDoorShBL.lean', which tools/lay-shelf.mjs wrote): THE SAME DECLARATIONS UNDER THE SAME NAMES: 'import', 'namespace', 'open', 'def', 'theorem' AND NOTHING ELSE: no command of the shelf's: FOR A HAND-IN. Each laying: the table of numbers ('.._ren') and one theorem, a field a fact of the dump's own or the kernel's comparison; each contract: ONE APPLICATION. slices.BinarySearch at numbers in order. Contracts of a search's methods, by its state. What (*bounded.search).hits collects; appending a hit; sorting hits; the certificate's lists. -/
import Derived.RangeFuncBox
import Derived.RangeFuncLeaves
import Derived.Shelf.Abstract
import Derived.OwnWalkIn
import Derived.TacticsInMore
import Derived.LoopNIn
import Derived.LoopIn
import Derived.Maps.AppendAt
import Derived.Shelf.SortM.Plain
import Derived.Shelf.SortM.SortNone
import Derived.Sort.OwnSortedInts
import Derived.Test.YtikiimlmoalbcaaGreatDoorOOtbb
import Derived.Test.YtikiimlmoalbcaaGreatDoorOOtan
import Derived.Test.YtikiimlmoalbcaaGreatDoorOOtah
import Derived.Shelf.SlicesG.SearchI
import Derived.Ground.SlgnProg
import Derived.Test.YtikiimlmoalbcaaGreatDoorProg
import Derived.Deep.Cut
import Derived.Test.YtikiimlmoalbcaaGreatDoorOOtaj
import Derived.Test.YtikiimlmoalbcaaGreatDoorOOtaw
import Derived.Shelf.SlSortCmp.NoneTotal
set_option linter.unusedVariables false
set_option linter.unusedSimpArgs false
namespace Go.Proofs.YtikiimlmoalbcaaGreatDoor
open Go.RowKit Go.Shelf Go.Sort
attribute [local go_sem] Oper.semAt_some
def uptoN (xs : List Nat) (k : Nat) : List Nat := (List.range k).map fun j => xs.getD j 0
theorem uptoN_succ (xs : List Nat) (k : Nat) : uptoN xs (k + 1) = uptoN xs k ++ [xs.getD k 0] := by simp [uptoN, List.range_succ]
theorem uptoN_length (xs : List Nat) (k : Nat) : (uptoN xs k).length = k := by simp [uptoN]
theorem uptoN_take (xs : List Nat) {k : Nat} (hk : k ≤ xs.length) : uptoN xs k = xs.take k := by
  apply List.ext_getElem
  · simp [uptoN, hk]
  · intro i h1 h2
    have : i < xs.length := by simp [uptoN] at h1; omega
    simp [uptoN, this]
set_option maxRecDepth 100000 in
set_option maxHeartbeats 2000000 in
theorem valuesN1_in (F : Fence) (n : Nat) (h7 : F.fn 188) (hro : F.round = none) (hn : 1 ≤ n) (l Bs n₀ : Nat) (sv : Value) (xs : List Nat) (J Jx : List Nat → World → Prop)
    (hY : ∀ pre x W, J pre W → pre.length < xs.length → YieldAt F (n - 1) Tryz.prog l #[.int .i64 ((x : Nat) : Int)] W fun e W' =>
      (e = .returned (.bool true) ∧ J (pre ++ [x]) W' ∧ Below n₀ W W') ∨ (e = .returned (.bool false) ∧ Jx (pre ++ [x]) W'))
    (W : World) (hBs : W.cell? ⟨Bs, 0, none⟩ = some sv) (hI : InN W (· < n₀) sv xs) (h0 : J [] W) :
    CallsIn F n Tryz.prog 188 #[.func (.yield l) #[] #[], .pointer (some ⟨Bs, 0, none⟩)] W fun e W' => (∃ v, e = .returned v) ∧
      ((∃ ys, ys = xs ∧ J ys W') ∨ (∃ pre, pre <+: xs ∧ Jx pre W')) := by
  obtain ⟨a, c, rfl, hc, hm, hx⟩ := hI
  unfold maxLen at hm
  have HT := hid (fun k h => @uptoN_take xs k h)
  generalize hlen : xs.length = len at *
  refine callsIn_of_wp Tryz.func188 rfl h7 ?_ hro
  simp only [Tryz.ntmps188, List.size_toArray, List.length_cons, List.length_nil, Nat.reduceAdd, Nat.reduceSub, Array.replicate_succ, Array.replicate_zero, List.push_toArray, List.append_toArray, List.nil_append, List.cons_append]
  gi_wp2
  gi_loopw [7] (fun i wr => ∃ k : Nat, k ≤ len ∧ i = .int .i64 k ∧ J (uptoN xs k) wr ∧ Below n₀ W wr) (fun i _ => len - (intOf i).toNat)
  case atStart => exact ⟨0, Nat.zero_le _, rfl, h0, Below.refl _ _⟩
  case round =>
    obtain ⟨k, hk, rfl, hJs, hnx⟩ := hrel
    by_cases hlt : k < len
    · obtain ⟨b, off, rfl, hb, hcs⟩ := hx (by omega)
      have hcx : wr.cell? ⟨b, off + k, none⟩ = some (.int .i64 ((xs.getD k 0 : Nat) : Int)) := (hnx.cell (p := ⟨b, off + k, none⟩) hb).trans (by have h := hcs k hlt 0 (by omega); simpa [natF] using h)
      have HU := hid (uptoN_succ xs k)
      generalize xs.getD k 0 = x at *
      obtain ⟨fn, tmps, assign, body, hy, hR⟩ := hY _ x wr hJs (by rw [uptoN_length]; exact hlt)
      gi_wp2
      refine hR.mono ?_
      rintro e W3 (⟨rfl, hJ3, hk3⟩ | ⟨rfl, hJx3⟩)
      · gi_wp2
        go_roundw
        case rel => exact ⟨k + 1, by omega, by go_num, by rw [HU.out]; exact hJ3, hnx.trans hk3⟩
        case measure =>
          have hw : wrap64 ((k : Int) + 1) = (k : Int) + 1 := by unfold wrap64; omega
          simp [intOf, hw]; omega
      · gi_wp2
        refine bodyPost_ret (results_none rfl _ _ _) rfl ?_
        exact ⟨⟨_, rfl⟩, .inr ⟨_, by rw [← HU.out, HT.out (k + 1) (by omega)]; exact List.take_prefix _ _, hJx3⟩⟩
    · obtain rfl : k = len := by omega
      gi_wp2
      go_end0
      exact ⟨⟨_, rfl⟩, .inl ⟨_, by rw [HT.out k (by omega), ← hlen, List.take_length], hJs⟩⟩
theorem valuesN_stops (F : Fence) (n : Nat) (h7 : F.fn 188) (hro : F.round = none) (hn : 1 ≤ n) (Bs n₀ : Nat) (sv : Value) (xs : List Nat) (w : World) (hBs : Bs < w.heap.size) (hn₀ : n₀ ≤ w.heap.size)
    (hc : w.cell? ⟨Bs, 0, none⟩ = some sv) (hI : InN w (· < n₀) sv xs) :
    SeqStopsK F n Tryz.prog 188 #[.pointer (some ⟨Bs, 0, none⟩)] (fun x : Nat => #[Value.int .i64 ((x : Nat) : Int)]) (Below n₀) (fun ys => ys = xs) (fun pre => pre <+: xs) xs.length w := fun l J Jx W hW _ _ hY h0 =>
  valuesN1_in F n h7 hro hn l Bs n₀ sv xs J Jx hY W ((hW.cell (p := ⟨Bs, 0, none⟩) hBs).trans hc) (InK.keep hI fun p (hp : p.block < n₀) => hW.cell (p := p) (by omega)) h0
set_option maxHeartbeats 1000000 in
theorem valuesN_in (F : Fence) (n : Nat) (h5 : F.fn 156) (hro : F.round = none) (a : Option Addr) (len c : Nat) (w : World) :
    CallsIn F n Tryz.prog 156 #[.slice a len c] w fun e w' => e = .returned (.func (.func 188) #[] #[.pointer (some ⟨w.heap.size, 0, none⟩)]) ∧ w' = w.alloc (.cells #[.slice a len c] 34) := by
  refine callsIn_of_wp Tryz.func156 rfl h5 ?_ hro
  simp only [Tryz.ntmps156, List.size_toArray, List.length_cons, List.length_nil, Nat.reduceAdd, Nat.reduceSub, Array.replicate_succ, Array.replicate_zero, List.push_toArray, List.append_toArray, List.nil_append, List.cons_append]
  gi_wp2
  go_ret
  exact ⟨rfl, rfl⟩
theorem lib_ValuesN (a : Option Addr) (len c : Nat) (w : World) : Calls Tryz.prog 156 #[.slice a len c] w fun e w' => e = .returned (.func (.func 188) #[] #[.pointer (some ⟨w.heap.size, 0, none⟩)]) ∧ w' = w.alloc (.cells #[.slice a len c] 34) :=
  callsIn_wide.1 (valuesN_in Fence.wide 5 trivial rfl a len c w)
theorem mapN_snoc (pre : List Nat) (x : Nat) : natsV (pre ++ [x]) = natsV pre ++ [.int .i64 ((x : Nat) : Int)] := by simp [natsV]
set_option maxRecDepth 100000 in
set_option maxHeartbeats 2000000 in
theorem appendSeqN_in (F : Fence) (n : Nat) (hA : F.fn 216) (hV : F.fn 188) (hro : F.round = none) (hn : 3 ≤ n) (Bs B : Nat) (sv : Value) (xs : List Nat) (w : World) (hBs : Bs < w.heap.size) (hB : B ≤ w.heap.size)
  (hc : w.cell? ⟨Bs, 0, none⟩ = some sv) (hI : InN w (· < B) sv xs) (hlen : xs.length ≤ 1099511627776) :
  CallsIn F n Tryz.prog 216 #[.slice none 0 0, .func (.func 188) #[] #[.pointer (some ⟨Bs, 0, none⟩)]] w fun e W' => ∃ v, e = .returned v ∧
   W'.ownsRow w.heap.size 3 1 v xs.length (natsV xs) ∧ Below w.heap.size w W' := by
 have h1 : 1 ≤ n := by omega
 obtain ⟨i0, hi, hz0, hz1, hz2⟩ := info_parts info_int'
 refine callsIn_of_wp_marks Tryz.func216 rfl hA ?_ hro
 simp only [Tryz.ntmps216, List.size_toArray, List.length_cons, List.length_nil, Nat.reduceAdd, Nat.reduceSub, Array.replicate_succ, Array.replicate_zero, List.push_toArray, List.append_toArray, List.nil_append, List.cons_append]
 gi_wp2
 have bO := Boxed.new w 34 (.slice none 0 0)
 have hB0 : Below w.heap.size w (w.alloc (.cells #[.slice none 0 0] 34)) := (Below.refl _ w).alloc (Nat.le_refl _) _
 refine wpIn_rangeFunc_ownG hro h1 (gf := 188) (lb := #[.pointer (some ⟨Bs, 0, none⟩)]) rfl hV (enters_of Tryz.func188 (by kernel_rfl) rfl)
  (valuesN_stops F (n - 1) hV hro (by omega) Bs w.heap.size sv xs _ (by simp; omega) (by simp) ((hB0.cell (p := ⟨Bs, 0, none⟩) hBs).trans hc) (InK.more (InK.keep hI fun p (hp : p.block < B) => hB0.cell (p := p) (by omega)) fun b hb => Nat.lt_of_lt_of_le hb hB)) belowK_t (belowK_b (by simp)) (Below.refl _ _) (fun _ => rfl)
  (fun pre W => (∃ v, Boxed W w.heap.size 34 v ∧ W.ownsRow w.heap.size 3 1 v pre.length (natsV pre) ∧ (v = .slice none 0 0 ↔ pre = [])) ∧ Below w.heap.size w W)
  (fun _ _ _ => False)
  (OwnFrom.and (Own.from (holdsRow_own w.heap.size w.heap.size 34 3 1 (fun pre : List Nat => pre.length) (fun pre => natsV pre) (fun pre v => v = .slice none 0 0 ↔ pre = [])) _) (ownFrom_below (Nat.le_refl _) (by simp)))
  (fun _ _ _ _ _ hs _ _ => hs)
  ⟨⟨_, bO, World.ownsRow_nil _ _ _ _, by simp⟩, hB0⟩
  (fun x => { tmps := #[.slice none 0 0, .func (.func 188) #[] #[.pointer (some ⟨Bs, 0, none⟩)], .pointer (some ⟨w.heap.size, 0, none⟩), undef, .slice none 0 0, .int .i64 ((x : Nat) : Int), .func (.func 188) #[] #[.pointer (some ⟨Bs, 0, none⟩)], .int .i64 ((x : Nat) : Int), undef, undef, undef, undef, undef], defers := [] }) ?assign ?body ?done ?stop
 case assign =>
  intro l x W K hK
  gi_wp2
  exact hK
 case body =>
  rintro l pre x W ⟨⟨v, hv, hrow, hnil⟩, hB'⟩ hlt
  have hc := hv.cell
  gi_wp2_with (gi_at_builtin; refine wpListIn_append_own _ rfl _ _ 34 rfl w.heap.size 3 i0 (.int .i64 0) 1 8 Tryz.underlying34 hi hz0 hz1 hz2 rfl (by decide) _ _ _ rfl (hrow.alloc _) ⟨W.heap.size, 0, none⟩ 1 1 [.int .i64 ((x : Nat) : Int)] rfl rfl (cell_one_new _ _ _) (by simp [Value.oneCell']) (by unfold maxLen; omega) (by omega) (by have := hB'.size; simp; omega) ?_; intro v' w1 hown' hgrow _; obtain ⟨g', cap', rfl⟩ := ownsRow_succ hown'; obtain ⟨hv1, hv2, hr2, hk2, hb2⟩ := hv.appended (by decide) hrow hB'.size (Nat.le_refl _) hown' hgrow; have hc1 := hv1.cell; have hf1 := hv1.frozen)
  exact ⟨hk2.from _, hb2, ⟨_, hv2, by rw [mapN_snoc]; simpa using hr2, by simp⟩, hB'.trans hb2⟩
 case done =>
  rintro D ys W hD rfl ⟨⟨v, hv, hrow, hnil⟩, hB'⟩ hK
  have hc := hv.cell
  gi_wp2
  refine ⟨by simp, .inl ⟨_, _, rfl, run_takeDeferred hK, ?_⟩⟩
  exact ⟨_, results_tmp rfl _ _ _, v, rfl, ownsRow_putObj hrow _ hK rfl, hB'.trans (belowK_b (w := w) (Nat.le_refl _) W D _ _ (by simp at hD; omega) hK rfl rfl)⟩
 case stop =>
  rintro D c pre W _ _ h _
  exact h.elim
set_option maxHeartbeats 1000000 in
theorem collectN_in (F : Fence) (n : Nat) (hC : F.fn 186) (hA : F.fn 216) (hV : F.fn 188) (hro : F.round = none) (hn : 4 ≤ n) (Bs B : Nat) (sv : Value) (xs : List Nat) (w : World) (hBs : Bs < w.heap.size) (hB : B ≤ w.heap.size)
    (hc : w.cell? ⟨Bs, 0, none⟩ = some sv) (hI : InN w (· < B) sv xs) (hlen : xs.length ≤ 1099511627776) :
    CallsIn F n Tryz.prog 186 #[.func (.func 188) #[] #[.pointer (some ⟨Bs, 0, none⟩)]] w fun e W' => ∃ v, e = .returned v ∧
      W'.ownsRow w.heap.size 3 1 v xs.length (natsV xs) ∧ Below w.heap.size w W' := by
  have h1 : 1 ≤ n := by omega
  refine callsIn_of_wp Tryz.func186 rfl hC ?_ hro
  simp only [Tryz.ntmps186, List.size_toArray, List.length_cons, List.length_nil, Nat.reduceAdd, Nat.reduceSub, Array.replicate_succ, Array.replicate_zero, List.push_toArray, List.append_toArray, List.nil_append, List.cons_append]
  gi_wp2_with (gi_at_call 216; refine (appendSeqN_in F (n - 1) hA hV hro (by omega) Bs B sv xs w hBs hB hc hI hlen).mono ?_; rintro e w' ⟨v, rfl, h2, h4⟩)
  go_ret
  exact ⟨v, rfl, h2, h4⟩
theorem natsV_intN (R : List Nat) : natsV R = (R.map fun x : Nat => (x : Int)).map (Value.int .i64) := by simp [natsV]
theorem lib_SortIN0 (w : World) : Calls Tryz.prog 187 #[.slice none 0 0] w fun e w' => e = .returned (.tuple #[]) ∧ w' = w := AnyM.slices_Sort_int_none Tryz.sortR none 0 w
theorem lib_SortIN (blk cap : Nat) (zs : List Int) (w : World) (hH : Go.Sort.Holds (Value.int .i64) w blk 0 zs.toArray) (hblk : blk < w.heap.size) (hsz : zs.length < 4611686018427387904) :
    Calls Tryz.prog 187 #[.slice (some ⟨blk, 0, none⟩) zs.length cap] w fun e w' =>
      e = .returned (.tuple #[]) ∧ ∃ n os, w' = Go.Sort.grow (Go.Sort.putRow (Value.int .i64) (Go.Sort.ahead w n) blk 0 (zs.mergeSort fun x y => decide (x ≤ y)).toArray) os := AnyM.slices_Sort_int Tryz.sortR blk 0 cap zs w hH hblk hsz
def sortN (xs : List Nat) : List Nat := xs.mergeSort fun x y => decide (x ≤ y)
theorem sortN_perm (xs : List Nat) : (sortN xs).Perm xs := List.mergeSort_perm _ _
theorem sortN_up (xs : List Nat) : (sortN xs).Pairwise (fun a b => a ≤ b) := by
  have h := List.pairwise_mergeSort (le := fun x y : Nat => decide (x ≤ y)) (fun a b c h1 h2 => by simp at *; omega) (fun a b => by simp; omega) xs
  exact h.imp fun h => by simpa using h
theorem upto_asc : ∀ {a b : List Int}, a.Pairwise (fun x y => x ≤ y) → b.Pairwise (fun x y => x ≤ y) → a.Perm b → a = b
  | [], b, _, _, h => (List.nil_perm.1 h).symm
  | x :: a, [], _, _, h => absurd h.length_eq (by simp)
  | x :: a, y :: b, h1, h2, h => by
    rw [List.pairwise_cons] at h1 h2
    have e : x = y := by
      have a1 : y ≤ x := by
        rcases List.mem_cons.1 (h.mem_iff.1 (List.mem_cons_self : x ∈ x :: a)) with e | e
        · omega
        · exact h2.1 x e
      have a2 : x ≤ y := by
        rcases List.mem_cons.1 (h.mem_iff.2 (List.mem_cons_self : y ∈ y :: b)) with e | e
        · omega
        · exact h1.1 y e
      omega
    subst e
    rw [upto_asc h1.2 h2.2 ((List.perm_cons _).1 h)]
theorem sortN_int (xs : List Nat) : (xs.map fun x : Nat => (x : Int)).mergeSort (fun x y => decide (x ≤ y)) = (sortN xs).map fun x : Nat => (x : Int) := by
  refine upto_asc ?_ ?_ ((List.mergeSort_perm _ _).trans ((sortN_perm xs).symm.map _))
  · have h := List.pairwise_mergeSort (le := fun x y : Int => decide (x ≤ y)) (fun a b c h1 h2 => by simp at *; omega) (fun a b => by simp; omega) (xs.map fun x : Nat => (x : Int))
    exact h.imp fun h => by simpa using h
  · rw [List.pairwise_map]
    exact (sortN_up xs).imp fun h => by omega
def SortedNP (w : World) (xs : List Nat) (e : Ending) (W' : World) : Prop :=
  ∃ v, e = .returned v ∧ W'.ownsRow w.heap.size 3 1 v xs.length (natsV (sortN xs)) ∧ Below w.heap.size w W'
set_option maxHeartbeats 1000000 in
theorem lib_SortedN (Bs B : Nat) (sv : Value) (xs : List Nat) (w : World) (hBs : Bs < w.heap.size) (hB : B ≤ w.heap.size)
    (hc : w.cell? ⟨Bs, 0, none⟩ = some sv) (hI : InN w (· < B) sv xs) (hlen : xs.length ≤ 1099511627776) :
    Calls Tryz.prog 155 #[.func (.func 188) #[] #[.pointer (some ⟨Bs, 0, none⟩)]] w (SortedNP w xs) := by
  have hcol := callsIn_wide.1 (collectN_in Fence.wide 5 trivial trivial trivial rfl (by omega) Bs B sv xs w hBs hB hc hI hlen)
  go_enter Tryz.func155, Tryz.ntmps155
  go_wp2_with fail
  with_reducible refine hcol.mono ?_
  rintro e W ⟨v, rfl, hrow, hb⟩
  have hsz : (xs.map fun x : Nat => (x : Int)).length < 4611686018427387904 := by rw [List.length_map]; omega
  rcases hrow.2 with ⟨rfl, hz⟩ | ⟨gb, cap, cur, rfl, hbase, hgb, r1, r2, r3, r4⟩
  · go_wp2_with fail
    with_reducible refine (lib_SortIN0 W).mono ?_
    rintro e w' ⟨rfl, rfl⟩
    go_wp2
    go_ret
    have hx : xs = [] := List.eq_nil_of_length_eq_zero hz
    subst hx
    exact ⟨_, rfl, by simpa [sortN] using hrow, hb⟩
  · have r4' : cur.toList.take (xs.map fun x : Nat => (x : Int)).length = (xs.map fun x : Nat => (x : Int)).map (Value.int .i64) := by
      rw [← natsV_intN, List.length_map]
      simpa using r4
    have hH := holds_of_blockI hgb r4'
    have hgl : gb < W.heap.size := (Array.getElem?_eq_some_iff.1 hgb).1
    have cS := lib_SortIN gb cap (xs.map fun x : Nat => (x : Int)) W hH hgl hsz
    rw [List.length_map, sortN_int] at cS
    go_wp2_with fail
    with_reducible refine cS.mono ?_
    rintro e w' ⟨rfl, nn, os, rfl⟩
    go_wp2
    go_ret
    have hown := ownsRow_sortedI (n := nn) (os := os) (base := w.heap.size) (ss := xs.map fun x : Nat => (x : Int)) (ts := (sortN xs).map fun x : Nat => (x : Int)) (by rw [List.length_map, List.length_map, (sortN_perm xs).length_eq]) hbase hgb (by rw [List.length_map]; exact r1) r2 r3
    rw [List.length_map, ← natsV_intN] at hown
    exact ⟨_, rfl, hown, hb.grown (grownBy_sortedI _) hb.size (fun j hj => by cases hj; exact hbase)⟩
end Go.Proofs.YtikiimlmoalbcaaGreatDoor

namespace Go.Proofs
open Go.Shelf
def Tryz.searchN_ren : Go.Shelf.Ren := ⟨fun | 49 => 68 | 59 => 129 | 60 => 130 | 68 => 171 | n => n, fun | 22 => 34 | 23 => 3 | 3 => 3 | 4 => 4 | 51 => 161 | 0 => 0 | n => n, fun | n => n⟩
theorem Tryz.searchN : Go.Proofs.SlLaysN.n49 Tryz.prog Tryz.searchN_ren := {
  mixed := by kernel_rfl
  f49 := ⟨Tryz.f68.name, by decide, Tryz.func68.trans (congrArg some (by kernel_rfl))⟩
  f59 := ⟨Tryz.f129.name, by decide, Tryz.func129.trans (congrArg some (by kernel_rfl))⟩
  f60 := ⟨Tryz.f130.name, by decide, Tryz.func130.trans (congrArg some (by kernel_rfl))⟩
  f68 := ⟨Tryz.f171.name, by decide, Tryz.func171.trans (congrArg some (by kernel_rfl))⟩
  t0 := Tryz.underlying0
  a0 := Tryz.isAgg0
  z0 := Tryz.sizeOf0
  v0 := Tryz.zeroValue0
  t3 := Tryz.underlying3
  a3 := Tryz.isAgg3
  z3 := Tryz.sizeOf3
  v3 := Tryz.zeroValue3
  t4 := Tryz.underlying4
  a4 := Tryz.isAgg4
  z4 := Tryz.sizeOf4
  v4 := Tryz.zeroValue4
  t22 := Tryz.underlying34
  a22 := Tryz.isAgg34
  z22 := Tryz.sizeOf34
  v22 := Tryz.zeroValue34
  t23 := Tryz.underlying3
  a23 := Tryz.isAgg3
  z23 := Tryz.sizeOf3
  v23 := Tryz.zeroValue3
  t51 := Tryz.underlying161
  a51 := Tryz.isAgg161
  z51 := Tryz.sizeOf161
  v51 := Tryz.zeroValue161 }
end Go.Proofs

namespace Go.Proofs.YtikiimlmoalbcaaGreatDoor
open Go.RowKit Go.Shelf
set_option maxHeartbeats 2000000 in
set_option maxRecDepth 100000 in
theorem lib_BinN0 (a : Option Addr) (c : Nat) (x : Int) (w : World) :
    Calls Tryz.prog 68 #[.slice a 0 c, .int .i64 x] w (fun e w' => (∃ z : Int, e = .returned (.tuple #[.int .i64 z, .bool false])) ∧ Below w.heap.size w w') := by
  have hd := hid ((Below.refl w.heap.size w))
  go_enter Tryz.func68, Tryz.ntmps68
  go_wp2_with fail
  refine wp_loop_rounds 1 ?_
  rw [rounds_succ]
  go_wp2
  refine bodyPost_ret (v := .tuple #[.int .i64 0, .bool false]) (by simp [results, Tryz.results68, go_sem]) rfl ?_
  exact ⟨⟨_, rfl⟩, hd.out⟩
theorem lib_BinN (v : Value) (xs : List Nat) (x : Nat) (B : Nat) (w : World) (hv : InN w (· < B) v xs) (hs : xs.Pairwise (· ≤ ·)) (hl : xs.length ≤ 1048576) :
    Calls Tryz.prog 68 #[v, .int .i64 (x : Int)] w (fun e w' => (∃ z : Int, e = .returned (.tuple #[.int .i64 z, .bool (decide (x ∈ xs))])) ∧ Below w.heap.size w w') := by
  obtain ⟨a, c, rfl, hc, hm, hr⟩ := hv
  rcases Nat.eq_zero_or_pos xs.length with h0 | h0
  · have e := List.eq_nil_of_length_eq_zero h0
    subst e
    exact lib_BinN0 a c x w
  · obtain ⟨b, o, rfl, hb, hcell⟩ := hr h0
    have h := AnyG.slices_BinarySearch_int Tryz.searchN b o xs.length c (xs.map fun x : Nat => (x : Int)) x w (by rw [List.length_map]; exact Nat.le_refl _) (by omega) (fun j hj => by
      rw [List.length_map] at hj
      have h1 := hcell j hj 0 (by omega)
      have e : (xs.map fun x : Nat => (x : Int)).getD j 0 = ((xs.getD j 0 : Nat) : Int) := by simp [List.getD, hj]
      rw [e]
      simpa [natF] using h1) (by
      rw [List.take_of_length_le (by rw [List.length_map]; exact Nat.le_refl _), List.pairwise_map]
      exact hs.imp fun h => by omega)
    refine h.mono ?_
    rintro e w' ⟨rfl, q, rfl⟩
    have e : ((xs.map fun x : Nat => (x : Int)).take xs.length).contains (x : Int) = decide (x ∈ xs) := by
      rw [List.take_of_length_le (by rw [List.length_map]; exact Nat.le_refl _), List.contains_eq_mem]
      congr 1
      rw [eq_iff_iff, List.mem_map]
      exact ⟨fun ⟨y, h1, h2⟩ => by rwa [show x = y by omega], fun h => ⟨x, h, rfl⟩⟩
    rw [e]
    exact ⟨⟨_, rfl⟩, ⟨rfl, rfl, rfl, Nat.le_refl _, fun _ _ => rfl⟩⟩
end Go.Proofs.YtikiimlmoalbcaaGreatDoor

namespace Go.Proofs.YtikiimlmoalbcaaGreatDoor
open Go.RowKit
structure Bar2 (w : World) (x y : Nat) (W : World) : Prop where
  os : W.os = w.os
  tape : W.tape = w.tape
  output : W.output = w.output
  size : w.heap.size ≤ W.heap.size
  block : ∀ k, k < w.heap.size → k ≠ x → k ≠ y → W.heap[k]? = w.heap[k]?
theorem Bar2.of {w W : World} (x y : Nat) (h : Below w.heap.size w W) : Bar2 w x y W := ⟨h.os, h.tape, h.output, h.size, fun k hk _ _ => h.block k hk⟩
theorem Bar2.trans {w W V : World} {x y : Nat} (h : Bar2 w x y W) (k : Bar2 W x y V) : Bar2 w x y V :=
  ⟨k.os.trans h.os, k.tape.trans h.tape, k.output.trans h.output, Nat.le_trans h.size k.size, fun i hi h1 h2 => (k.block i (Nat.lt_of_lt_of_le hi h.size) h1 h2).trans (h.block i hi h1 h2)⟩
theorem Bar2.below {w W : World} {x y B : Nat} (h : Bar2 w x y W) (hB : B ≤ w.heap.size) (hx : B ≤ x) (hy : B ≤ y) : Below B w W := ⟨h.os, h.tape, h.output, h.size, fun k hk => h.block k (by omega) (by omega) (by omega)⟩
theorem Bar2.box {w W : World} {x y b : Nat} {t : TypeId} {vs : Array Value} (h : Bar2 w x y W) (hb : BoxN w b t vs) (hx : b ≠ x) (hy : b ≠ y) : BoxN W b t vs := (h.block b hb.lt hx hy).trans hb
structure ScoOk (w0 : World) (fv : Value) (Q : Nat) (den : Nat → Nat → Nat) : Prop where
  sco : Sco Q den
  small : ∀ n s, 0 < n → n ≤ Q → n ≤ s → s ≤ 4096 → den n s < 4294967296
  call : ∀ n s W, n ≤ Q → n ≤ s → s ≤ 4096 → Below w0.heap.size w0 W → Calls Tryz.prog 143 #[fv, .int .i64 (n : Int), .int .i64 (s : Int)] W (Fr.PosP W n (den n s))
theorem size_le {cs : List Cv} (h : CvsOk cs) (c : Nat) : sizeC cs c ≤ 4096 := by
  by_cases hc : c < cs.length
  · exact h.len _ (getD_mem hc Cv.z)
  · have e : cs.getD c Cv.z = Cv.z := by simp [List.getD, List.getElem?_eq_none (Nat.le_of_not_lt hc)]
    unfold sizeC
    rw [e]
    exact Nat.zero_le _
theorem vs_len (cs : List Cv) (pl : List Nat) : (vsOf cs pl).length = pl.length := by simp [vsOf]
section
variable {w0 w : World} {cs : List Cv} {q : List ByteArray} {ev vv lv qv fv : Value} {sb lb xc cap r : Nat} {xa : Option Addr} {pl : List Nat} {den : Nat → Nat → Nat}
theorem SrcSt.inw (h : SrcSt w0 w cs q ev vv lv qv fv sb lb xa xc cap pl r) (hin : SrcIn w0 cs q ev vv lv qv) : SrcIn w cs q ev vv lv qv := hin.later h.below
theorem st_best (hin : SrcIn w0 cs q ev vv lv qv) (h : SrcSt w0 w cs q ev vv lv qv fv sb lb xa xc cap pl r) {c : Nat} (hc : c < cs.length) :
    Calls Tryz.prog 110 #[.pointer (some ⟨sb, 0, none⟩), .int .i64 (c : Int)] w (Ret w (.int .i64 ((bestC cs (vsOf cs pl) r c : Nat) : Int))) := by
  have h1 := h.len
  have h2 := hin.ql
  have h3 := h.low_le hin.ql c
  have h4 := src_best cs ev vv lv qv fv xa pl.length xc r cs.length lb sb w0.heap.size cap c _ _ w (h.inw hin).rd h.box h.low rfl hc h.le (by omega) h3
  rw [lowsL_at hc] at h4
  unfold bestC
  rw [vs_len]
  exact h4
theorem st_hit (hin : SrcIn w0 cs q ev vv lv qv) (h : SrcSt w0 w cs q ev vv lv qv fv sb lb xa xc cap pl r) (hs : ScoOk w0 fv q.length den) {c n : Nat} (hc : c < cs.length) (hn : n ≤ q.length) (hz : n ≤ sizeC cs c) :
    Calls Tryz.prog 108 #[.pointer (some ⟨sb, 0, none⟩), .int .i64 (c : Int), .int .i64 (n : Int)] w (HitP w (cs.getD c Cv.z).1.1 ((cs.getD c Cv.z).1.2 : Int) n (den n (sizeC cs c))) := by
  have h1 := (h.inw hin).rd.ents
  have hb := h.box
  have hl : (indexOf cs).ents.length = cs.length := ents_len cs
  obtain ⟨ea, ec, rfl, hp, hm, hr⟩ := h1
  rw [hl] at *
  exact src_hit cs vv lv qv _ _ fv ea cs.length ec r sb c n (den n (sizeC cs c)) _ w ⟨ea, ec, rfl, hp, hm, hr⟩ rfl (fun k hk => hk) hb hc fun W hW => hs.call n _ W hn hz (size_le hin.ok c) (h.below.trans (hW.mono h.below.size))
theorem st_common (hin : SrcIn w0 cs q ev vv lv qv) {W : World} (hb : Below w0.heap.size w0 W) {c : Nat} (hc : c < cs.length) :
    Calls Tryz.prog 66 #[.agg #[ev, vv, lv], qv, .int .i64 (c : Int)] W (Ret W (.int .i64 ((comC cs q c : Nat) : Int))) := by
  have h1 := hin.later hb
  exact src_common cs hin.ok q ev vv lv qv W.heap.size c W hc h1.rd (Nat.le_refl _) h1.qrd hin.asc (by have := hin.ql; omega)
theorem lists_in {cs : List Cv} {L : List Nat} (hL : L ∈ (indexOf cs).lists) : L.length ≤ cs.length ∧ ∀ c ∈ L, c < cs.length := by
  simp only [indexOf, List.mem_map] at hL
  obtain ⟨v, -, rfl⟩ := hL
  refine ⟨?_, fun c hc => (listOfV_mem.1 hc).1⟩
  unfold listOfV
  exact Nat.le_trans (List.length_filter_le _ _) (by simp)
theorem st_cheaper (hin : SrcIn w0 cs q ev vv lv qv) (h : SrcSt w0 w cs q ev vv lv qv fv sb lb xa xc cap pl r) {cols : List Nat} {cv : Value} (hco : InN w (· < w.heap.size) cv cols) (hl : ∀ c ∈ cols, c < cs.length) (hn : cols.length ≤ 1048576) :
    Calls Tryz.prog 157 #[.pointer (some ⟨sb, 0, none⟩), cv] w (CheapP w) := by
  have h1 := (h.inw hin).rd
  have hb := h.box
  have he : (indexOf cs).ents.length = cs.length := ents_len cs
  have hql := hin.ql
  have hpl := h.len
  obtain ⟨ca, cc, rfl, hcp, hcm, hcr⟩ := hco
  obtain ⟨ea, ec, rfl, -⟩ := id h1.ents
  obtain ⟨lf, ⟨la, lc, rfl, -⟩, -⟩ := id h1.lists
  have hE := hin.ok.many
  rw [he] at h1 hb
  exact src_cheaper cs vv qv fv _ ea la xa ca cs.length ec _ lc pl.length xc r sb cols.length cc pl cols w h1 rfl rfl (InK.more h.lst fun k hk => hk.1.2) rfl (fun j hj => by rw [idx_lists]; exact h.lt j hj) h.nil hb h.le (by omega) ⟨ca, cc, rfl, hcp, hcm, hcr⟩ rfl (fun j hj => hl _ (getD_mem hj 0)) hn (fun c _ => by have := size_le hin.ok c; omega) (fun L hL => by have := (lists_in hL).1; omega)
def StNextP (w0 w : World) (cs : List Cv) (q : List ByteArray) (ev vv lv qv fv : Value) (sb lb : Nat) (xa : Option Addr) (xc cap : Nat) (pl : List Nat) (r : Nat) (e : Ending) (w' : World) : Prop :=
  Bar2 w sb lb w' ∧ ((r < pl.length ∧ e = .returned (.bool true) ∧ SrcSt w0 w' cs q ev vv lv qv fv sb lb xa xc cap pl (r + 1)) ∨ (r = pl.length ∧ e = .returned (.bool false) ∧ SrcSt w0 w' cs q ev vv lv qv fv sb lb xa xc cap pl r))
theorem st_next (hin : SrcIn w0 cs q ev vv lv qv) (h : SrcSt w0 w cs q ev vv lv qv fv sb lb xa xc cap pl r) :
    Calls Tryz.prog 158 #[.pointer (some ⟨sb, 0, none⟩)] w (StNextP w0 w cs q ev vv lv qv fv sb lb xa xc cap pl r) := by
  have hlv := hin.rd.lists
  obtain ⟨lf, ⟨la, lc, rfl, -⟩, -⟩ := hlv
  have h1 := hin.rd.keep (w' := w) fun p hp => h.below.cell (p := p) hp
  have hb := h.box
  have hql := hin.ql
  have hpl := h.len
  have hE := hin.ok.many
  have hlo := h.low.lt
  have hbs := h.below.size
  have hg := h.ge
  have hlst := h.lst
  refine (src_next ev vv qv fv la xa _ lc pl.length xc r cs.length lb sb w0.heap.size cap (indexOf cs) _ pl (fun k => k < w.heap.size ∧ k ≠ sb ∧ k ≠ lb) w (h1.more fun k hk => ⟨by omega, by omega, by omega⟩) (InK.more hlst fun k hk => ⟨hk.1.2, hk.2⟩) (fun k hk => hk) hb h.low hg.2 h.le (fun j hj => by rw [idx_lists]; exact h.lt j hj) rfl rfl
    (fun L hL c hc => (lists_in hL).2 c hc) (h.low_le hin.ql) (fun L hL => by have := (lists_in hL).1; omega) (by omega) (by omega)).mono ?_
  rintro e w' ⟨ha, hb2⟩
  by_cases hr : r < pl.length
  · obtain ⟨rfl, ys, hi, hrow, hbox, hblk, hsz, hos, htp, hou⟩ := ha hr
    have hbar : Bar2 w sb lb w' := ⟨hos, htp, hou, hsz, hblk⟩
    have e := lowsL_next hr (h.lt r hr) hi
    subst e
    refine ⟨hbar, .inl ⟨hr, rfl, ?_⟩⟩
    refine ⟨hbox, hrow, ?_, h.nil, h.lt, h.ok, hr, h.ge, h.below.trans (hbar.below h.below.size (by omega) (by omega))⟩
    exact (InK.keep h.lst fun p hp => World.cell?_of_block (hblk p.block hp.1.2 hp.2.1 hp.2.2)).more fun k hk => ⟨⟨hk.1.1, by omega⟩, hk.2⟩
  · obtain ⟨rfl, hbb⟩ := hb2 hr
    have := h.le
    exact ⟨Bar2.of _ _ hbb, .inr ⟨by omega, rfl, h.later hbb⟩⟩
end
end Go.Proofs.YtikiimlmoalbcaaGreatDoor

namespace Go.Proofs.YtikiimlmoalbcaaGreatDoor
open Go.RowKit Go.Shelf
def knownB (cs : List Cv) (vs : List ByteArray) (r : Nat) (cols : List Nat) (c : Nat) : Bool := decide (c ∈ cols) || decide (bestC cs vs r c = lowC cs vs r c)
def hitsUp (cs : List Cv) (q vs : List ByteArray) (r : Nat) (cols : List Nat) (p : Nat) : List Nat := (List.range p).filter fun c => decide (0 < comC cs q c) && knownB cs vs r cols c
theorem hitsUp_yes {cs : List Cv} {q vs : List ByteArray} {r : Nat} {cols : List Nat} {p : Nat} (h : (decide (0 < comC cs q p) && knownB cs vs r cols p) = true) : hitsUp cs q vs r cols (p + 1) = hitsUp cs q vs r cols p ++ [p] := by
  unfold hitsUp
  rw [List.range_succ, List.filter_append, List.filter_cons, List.filter_nil, if_pos h]
theorem hitsUp_no {cs : List Cv} {q vs : List ByteArray} {r : Nat} {cols : List Nat} {p : Nat} (h : (decide (0 < comC cs q p) && knownB cs vs r cols p) = false) : hitsUp cs q vs r cols (p + 1) = hitsUp cs q vs r cols p := by
  unfold hitsUp
  rw [List.range_succ, List.filter_append, List.filter_cons, List.filter_nil, if_neg (by rw [h]; simp), List.append_nil]
theorem hitsUp_nodup (cs : List Cv) (q vs : List ByteArray) (r : Nat) (cols : List Nat) (p : Nat) : (hitsUp cs q vs r cols p).Nodup := List.nodup_range.sublist List.filter_sublist
theorem hitsUp_len (cs : List Cv) (q vs : List ByteArray) (r : Nat) (cols : List Nat) (p : Nat) : (hitsUp cs q vs r cols p).length ≤ p := Nat.le_trans (List.length_filter_le _ _) (by simp)
theorem hitsUp_mem {cs : List Cv} {q vs : List ByteArray} {r : Nat} {cols : List Nat} {p c : Nat} : c ∈ hitsUp cs q vs r cols p ↔ c < p ∧ 0 < comC cs q c ∧ knownB cs vs r cols c = true := by
  unfold hitsUp
  rw [List.mem_filter, List.mem_range, Bool.and_eq_true, decide_eq_true_iff]
theorem com_known {cs : List Cv} {q vs : List ByteArray} {r c : Nat} (hv : ReadOk cs q vs) (hq : q.Nodup) (h : bestC cs vs r c = lowC cs vs r c) : lowC cs vs r c = comC cs q c := by
  have h1 := low_le_com hv r c
  have h2 := com_le_best hv hq r c
  omega
set_option maxRecDepth 100000 in
theorem wpList_append_hit {w : World} {ops : Array Oper} {rest : List Oper} {o : Oper} {a : Act} {Q : Exit → Act → World → Prop} (hgd : o.guard = none) (s x : Operand) (ho : o.op = .call { callee := .builtin .append, args := #[s, x], argTypes := #[33, 33] })
    (B : Nat) (v : Value) (ds : List Mq) (n : Nat) (hn : n = ds.length) (hs : a.eval s = v) (hown : w.ownsRow B 53 6 v n (flatK 6 n (encF encQ default ds))) (news : List Value) (h6 : news.length = 6) (h1 : ∀ u ∈ news, u.oneCell' = true) (blk c : Nat) (e' : TypeId) (hx : a.eval x = .slice (some ⟨blk, 0, none⟩) 1 c) (hbox : BoxN w blk e' news.toArray) (hl : n < 1048576) (hbase : B ≤ w.heap.size)
    (h : ∀ g cap w', w'.ownsRow B 53 6 (.slice (some ⟨g, 0, none⟩) (n + 1) cap) (n + 1) (flatK 6 n (encF encQ default ds) ++ news) → w.grownBy w' v.ownBlock → (v.ownBlock = some g ∨ g = w.heap.size) → wpList Tryz.prog ops Q rest (a.put o.dst (.slice (some ⟨g, 0, none⟩) (n + 1) cap)) w') : wpList Tryz.prog ops Q (o :: rest) a w := by
  obtain ⟨i0, hi, hz0, hz1, hz2⟩ := info_parts info_hit
  refine wpList_append_form w hgd s x 33 33 ho B 53 53 i0 _ 6 80 Tryz.underlying33 Tryz.underlying33 hi hz0 hz1 hz2 rfl (by decide) v n _ hs hown (some ⟨blk, 0, none⟩) 1 c news hx h6 (fun _ => ⟨_, rfl, fun j u hj => ?_⟩) h1 (by omega) (by unfold maxLen; omega) (by omega) hbase fun g cap w' h1 h2 h3 _ => h g cap w' h1 h2 h3
  have h1 := hbox.cell j (v := u) (by simpa using hj)
  have e : (⟨blk, 0, none⟩ : Addr).add j = ⟨blk, j, none⟩ := by unfold Addr.add; split <;> simp_all
  rw [e]
  exact h1
theorem HtsOf.base {B B' : Nat} {W : World} {v : Value} {den : Nat → Nat → Nat} {cs : List Cv} {f : Nat → Nat} {H : List Nat} {ds : List Mq} (h : HtsOf B W v den cs f H ds) (hB : B' ≤ B) : HtsOf B' W v den cs f H ds :=
  ⟨⟨own_base h.row.row hB, h.row.good, h.row.start, fun x hx R hR => h.row.far x hx R (by omega)⟩, h.of, h.cols⟩
theorem HtsOf.add {B C : Nat} {W W' : World} {v : Value} {den : Nat → Nat → Nat} {cs : List Cv} {f : Nat → Nat} {H : List Nat} {ds : List Mq} (h : HtsOf B W v den cs f H ds) (hk : CvsOk cs) {c : Nat} {ta ca : Int} {a b : Option Addr} {c5 k5 P Q p m cap : Nat} (hN : Fr.NewF C W a c5 b k5 P Q) (hBC : B ≤ C) (hrow : ∀ k, v.ownBlock = some k → k < C) (hs : Fr.Sml P Q) (hm : m = ds.length)
    (hown : W'.ownsRow B 53 6 (.slice (some ⟨p, 0, none⟩) (m + 1) cap) (m + 1) (flatK 6 m (encF encQ default ds) ++ [.int .i64 ta, .int .i64 ca, .bool false, .slice a (Fr.dig P).length c5, .bool false, .slice b (Fr.dig Q).length k5])) (hgr : W.grownBy W' v.ownBlock) (hat : v.ownBlock = some p ∨ p = W.heap.size)
    (hi : IsHit den cs f c ⟨ta, ca, (a, c5), (b, k5), P, Q⟩) : ∃ x : Mq, HtsOf B W' (.slice (some ⟨p, 0, none⟩) (m + 1) cap) den cs f (H ++ [c]) (ds ++ [x]) := by
  subst hm
  refine ⟨⟨⟨ta, ca, (a, c5), (b, k5), P, Q⟩, hs.pos⟩, h.push hk rfl hown hgr hat ⟨hN.1, hN.2.1, fun k hk => hN.2.2.1 k (hrow k hk), fun k hk => hN.2.2.2 k (hrow k hk), hs⟩ (fun R hR => ⟨hN.2.2.1 R (by omega), hN.2.2.2 R (by omega)⟩) hi⟩
def SortHP (w : World) (B : Nat) (v : Value) (den : Nat → Nat → Nat) (cs : List Cv) (f : Nat → Nat) (H : List Nat) (e : Ending) (w' : World) : Prop :=
  e = .returned (.tuple #[]) ∧ ∃ H' ds', H'.Perm H ∧ H'.Pairwise (befH den (sizeC cs) f) ∧ HtsOf B w' v den cs f H' ds' ∧ ds'.length = H.length ∧ Below B w w'
theorem hts_sort {den : Nat → Nat → Nat} {cs : List Cv} {f : Nat → Nat} {H : List Nat} {ds : List Mq} {B : Nat} {v : Value} {w : World} (h : HtsOf B w v den cs f H ds) (hk : CvsOk cs) (hn : H.Nodup) (hB : B ≤ w.heap.size) (hm : H.length ≤ 1048576) (hpos : ∀ x ∈ ds, 0 < x.1.q) (ho : ∀ W, Below B w W → Fr.OneAt W) :
    Calls Tryz.prog 109 #[v, .func (.func 81) #[] #[]] w (SortHP w B v den cs f H) := by
  have hl := h.len
  rcases Nat.eq_zero_or_pos ds.length with h0 | h0
  · have e0 := List.eq_nil_of_length_eq_zero h0
    subst e0
    have e1 := h.row.start rfl
    have e2 : H = [] := List.eq_nil_of_length_eq_zero hl.symm
    subst e1 e2
    refine (AnyF.slices_SortFunc_none { Tryz.sortHit with } none 0 _ w).mono ?_
    rintro e w' ⟨he, rfl⟩
    exact ⟨he, [], [], List.Perm.nil, List.Pairwise.nil, h, rfl, Below.refl _ _⟩
  · obtain ⟨a, c, hv⟩ := h.row.slice
    have hrow := h.row.row
    rw [hv] at hrow
    rcases hrow.2 with ⟨e1, -⟩ | ⟨blk, cap, cur, e1, hbl, -⟩
    · obtain ⟨-, e2, -⟩ := Value.slice.inj e1
      omega
    · obtain ⟨rfl, -, rfl⟩ := Value.slice.inj e1
      subst hv
      refine (hit_sort ds B blk ds.length c w rfl h0 (by omega) hrow (fun x hx => (h.row.good x hx).m) (fun W hW => ho W (hW.below hB hbl))).mono ?_
      rintro e w' ⟨he, ds', hp, hs, hr, hb⟩
      obtain ⟨H', h1, h2, h3⟩ := h.sorted hk hn rfl hp hs hr hb
      exact ⟨he, H', ds', h1, h2, h3, by rw [hp.length_eq, hl], hb.below hB hbl⟩
def SrtP (w : World) (r : Nat) (sl : List Nat) (e : Ending) (w' : World) : Prop :=
  ∃ sa sc, e = .returned (.slice sa r sc) ∧ InN w' (fun k => w.heap.size ≤ k ∧ k < w'.heap.size) (.slice sa r sc) (sortN sl) ∧ Below w.heap.size w w'
theorem own_in {w : World} {base : Nat} {v : Value} {n : Nat} {xs : List Nat} {e : TypeId} (h : w.ownsRow base e 1 v n (natsV xs)) (hn : n = xs.length) : InN w (fun k => base ≤ k ∧ k < w.heap.size) v xs := by
  subst hn
  exact InK.more (inN_of_own h) fun k hk => h.lt k hk
theorem st_sorted {w : World} {S : Nat → Prop} {xa : Option Addr} {m xc : Nat} {pl : List Nat} {r bk : Nat} (hp : InN w S (.slice xa m xc) pl) (hS : ∀ k, S k → k < w.heap.size) (hm : pl.length = m) (hr : r ≤ m) (hl : m ≤ 1048576) (hx : BoxN w bk 34 #[.slice xa r xc]) :
    Calls Tryz.prog 155 #[.func (.func 188) #[] #[.pointer (some ⟨bk, 0, none⟩)]] w (SrtP w r (pl.take r)) := by
  have htl : (pl.take r).length = r := by rw [List.length_take]; omega
  have hin : InN w (· < w.heap.size) (.slice xa r xc) (pl.take r) := by
    obtain ⟨a, c, e, h1, h2, h3⟩ := hp
    obtain ⟨rfl, -, rfl⟩ := Value.slice.inj e
    refine ⟨xa, xc, by rw [htl], by rw [htl]; omega, h2, fun h0 => ?_⟩
    rw [htl] at h0 ⊢
    obtain ⟨b, o, e, hb, hc⟩ := h3 (by omega)
    refine ⟨b, o, e, hS b hb, fun i hi j hj => ?_⟩
    rw [hc i (by omega) j hj]
    have e2 : (pl.take r).getD i 0 = pl.getD i 0 := by simp [List.getD, List.getElem?_take, hi]
    simp only [natF]
    rw [e2]
  refine (lib_SortedN bk w.heap.size (.slice xa r xc) (pl.take r) w hx.lt (Nat.le_refl _) (hx.cell 0 rfl) hin (by omega)).mono ?_
  rintro e w' ⟨v, rfl, hown, hb⟩
  rw [htl] at hown
  obtain ⟨sa, sc, rfl⟩ := own_slice hown
  exact ⟨sa, sc, rfl, own_in hown (by rw [(sortN_perm _).length_eq, htl]), hb⟩
theorem sml_ofB {c d : Nat} (hd : 0 < d) (hc : c < 4294967296) (hd2 : d < 4294967296) : Fr.Sml (c / Nat.gcd c d) (d / Nat.gcd c d) :=
  ⟨Nat.lt_of_le_of_lt (Nat.div_le_self _ _) hc, Nat.div_pos (Nat.gcd_le_right _ hd) (Nat.gcd_pos_of_pos_right _ hd), Nat.lt_of_le_of_lt (Nat.div_le_self _ _) hd2, by
    have h := Nat.gcd_div (Nat.gcd_dvd_left c d) (Nat.gcd_dvd_right c d)
    rw [h, Nat.div_self (Nat.gcd_pos_of_pos_right _ hd)]⟩
def InT (W : World) (B T : Nat) (v : Value) (xs : List Nat) : Prop := InN W (fun k => B ≤ k ∧ k < T) v xs ∧ T ≤ W.heap.size
theorem InT.later {W W' : World} {B T C : Nat} {v : Value} {xs : List Nat} (h : InT W B T v xs) (hb : Below C W W') (hC : T ≤ C) : InT W' B T v xs := ⟨InK.keep h.1 fun p hp => hb.cell (p := p) (by have := hp.2; omega), Nat.le_trans h.2 hb.size⟩
theorem InT.set {W : World} {B T : Nat} {v : Value} {xs : List Nat} (h : InT W B T v xs) {p : Addr} (hp : p.block < B) (u : Value) : InT (W.setCell p u) B T v xs := ⟨InK.keep h.1 fun x hx => World.cell?_of_block (Below.heap_setCell _ _ _ _ (by have := hx.1; omega)), by simpa using h.2⟩
end Go.Proofs.YtikiimlmoalbcaaGreatDoor
