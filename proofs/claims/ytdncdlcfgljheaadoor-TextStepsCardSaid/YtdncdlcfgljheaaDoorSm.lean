/- The program's set of a list of texts: slices.Sorted, text.Set. -/
import Derived.Test.YtdncdlcfgljheaaDoorSi
import Derived.Test.YtdncdlcfgljheaaDoorSk
namespace Go.Proofs.YtdncdlcfgljheaaDoor
open Go.RowKit Go.Shelf Go.Sort Go.Lib

theorem ownsRow_cut {w : World} {base : Nat} {e : TypeId} {g cap n k : Nat} {xs : List Value} (h : w.ownsRow base e 1 (.slice (some ⟨g, 0, none⟩) n cap) n xs) (hk : k ≤ n) : w.ownsRow base e 1 (.slice (some ⟨g, 0, none⟩) k cap) k (xs.take k) := by
  obtain ⟨hl, h⟩ := h
  rcases h with ⟨h0, _⟩ | ⟨g', cap', cur, hv, hb, hg, hn, hm, hs, ht⟩
  · cases h0
  · cases hv
    exact ⟨by simp; omega, .inr ⟨g, cap, cur, rfl, hb, hg, by omega, hm, hs, by rw [← ht, List.take_take]; congr 1; omega⟩⟩

theorem enc_map (xs : List ByteArray) : xs.map Value.string = (xs.map listOf).map encStr := by
  rw [List.map_map]
  apply List.map_congr_left
  intro x _
  simp [listOf]
def sortedL (xs : List ByteArray) : List (List UInt8) := (xs.map listOf).mergeSort fun x y => decide (x ≤ y)
theorem sortedL_length (xs : List ByteArray) : (sortedL xs).length = xs.length := by unfold sortedL; simp
/-- what a set's memory holds: the set, then empty texts -/
def setCells (xs : List ByteArray) : List (List UInt8) := compact (sortedL xs) ++ List.replicate (xs.length - (compact (sortedL xs)).length) []
theorem setCells_length (xs : List ByteArray) : (setCells xs).length = xs.length := by
  have h1 : (compact (sortedL xs)).length = (setOfL xs).length := compact_len xs
  have h2 := setOfL_len xs
  unfold setCells
  simp
  omega
theorem setCells_take (xs : List ByteArray) : ((setCells xs).map encStr).take (setOfL xs).length = (setOfL xs).map Value.string := by
  have h1 : (compact (sortedL xs)).length = (setOfL xs).length := compact_len xs
  unfold setCells
  rw [List.map_append, List.take_append_of_le_length (by simp; omega), List.take_of_length_le (by simp; omega), ← compact_sorted, List.map_map]
  rfl

def SortedP (w : World) (xs : List ByteArray) (e : Ending) (W' : World) : Prop :=
  ∃ v, e = .returned v ∧ W'.ownsRow w.heap.size 9 1 v xs.length ((sortedL xs).map encStr) ∧ Below w.heap.size w W'

set_option maxHeartbeats 1000000 in
theorem slices_Sorted (Bs B : Nat) (sv : Value) (xs : List ByteArray) (w : World) (hBs : Bs < w.heap.size) (hB : B ≤ w.heap.size)
    (hc : w.cell? ⟨Bs, 0, none⟩ = some sv) (hI : RdS w B sv xs) (hlen : xs.length ≤ 1099511627776) :
    Calls Tryd.prog 54 #[.func (.func 87) #[] #[.pointer (some ⟨Bs, 0, none⟩)]] w (SortedP w xs) := by
  have hcol := callsIn_wide.1 (collect_in Fence.wide 5 trivial trivial trivial rfl (by omega) Bs B sv xs w hBs hB hc hI hlen)
  go_enter Tryd.func54, Tryd.ntmps54
  go_wp2_with fail
  with_reducible refine hcol.mono ?_
  rintro e W ⟨v, rfl, hrow, hnil, hb⟩
  have hsz : (xs.map listOf).length < 4611686018427387904 := by rw [List.length_map]; omega
  rcases hrow.2 with ⟨rfl, hz⟩ | ⟨gb, cap, cur, rfl, hbase, hgb, r1, r2, r3, r4⟩
  · go_wp2_with fail
    with_reducible refine (Tryd.slices_Sort_string_none none 0 W).mono ?_
    rintro e w' ⟨rfl, rfl⟩
    go_wp2
    go_ret
    have hx : xs = [] := List.eq_nil_of_length_eq_zero hz
    subst hx
    exact ⟨_, rfl, by simpa [sortedL] using hrow, hb⟩
  · have hH : Holds encStr W gb 0 (xs.map listOf).toArray := holds_of_block hgb (by rw [← enc_map, List.length_map]; simpa using r4)
    have hgl : gb < W.heap.size := (Array.getElem?_eq_some_iff.1 hgb).1
    have cS := Tryd.slices_Sort_string gb 0 cap (xs.map listOf) W hH hgl hsz
    rw [List.length_map] at cS
    go_wp2_with fail
    with_reducible refine cS.mono ?_
    rintro e w' ⟨rfl, nn, os, rfl⟩
    go_wp2
    go_ret
    have hown := ownsRow_sorted (n := nn) (os := os) (ss := xs.map listOf) (ts := sortedL xs) (by rw [sortedL_length, List.length_map]) hbase hgb (by rw [List.length_map]; exact r1) r2 r3
    rw [List.length_map] at hown
    exact ⟨_, rfl, hown, hb.grown (grownBy_sorted _) hb.size (fun j hj => by cases hj; exact hbase)⟩

set_option maxHeartbeats 1000000 in
theorem text_Set (v0 : Value) (xs : List ByteArray) (B : Nat) (w : World) (hv : RdS w B v0 xs) (hB : B ≤ w.heap.size) (hlen : xs.length ≤ 1099511627776) :
    Calls Tryd.prog 30 #[v0] w (GivesS w (setOfL xs)) := by
  have HV := hid hv
  obtain ⟨a, c, rfl, -⟩ := hv
  have hval := callsIn_wide.1 (values_in Fence.wide 5 trivial rfl a xs.length c w)
  have HTK := hid (setCells_take xs)
  have HCL := hid (compact_len xs)
  go_enter Tryd.func30, Tryd.ntmps30
  go_wp2_with fail
  with_reducible refine hval.mono ?_
  rintro e W ⟨rfl, rfl⟩
  have hb1 : Below w.heap.size w (w.alloc (.cells #[.slice a xs.length c] 28)) := (Below.refl _ _).alloc (Nat.le_refl _) _
  have hcell := (Boxed.new w 28 (.slice a xs.length c)).cell
  have hr1 : RdS (w.alloc (.cells #[.slice a xs.length c] 28)) B (.slice a xs.length c) xs := Rd.below HV.out hb1 hB
  go_wp2_with fail
  with_reducible refine (slices_Sorted w.heap.size B _ xs _ (by simp) (by simp; omega) hcell hr1 hlen).mono ?_
  rintro e W1 ⟨v, rfl, hown, hb2⟩
  have hb3 : Below w.heap.size w W1 := hb1.trans (hb2.mono (by simp))
  have hbase0 : w.heap.size ≤ (w.alloc (.cells #[.slice a xs.length c] 28)).heap.size := by simp
  rcases hown.2 with ⟨rfl, hz⟩ | ⟨gb, cap, cur, rfl, hbase, hgb, r1, r2, r3, r4⟩
  · go_wp2_with fail
    with_reducible refine (Tryd.slices_Compact_string_empty none 0 W1).mono ?_
    rintro e w' ⟨rfl, rfl⟩
    go_wp2
    go_ret
    have hx : xs = [] := List.eq_nil_of_length_eq_zero hz
    subst hx
    exact ⟨none, 0, rfl, World.ownsRow_nil _ _ _ _, hb3⟩
  · have hl : (sortedL xs).length = xs.length := sortedL_length xs
    have hH : Holds encStr W1 gb 0 (sortedL xs).toArray := holds_of_block hgb (by rw [hl]; simpa using r4)
    have cS := Tryd.slices_Compact_string gb 0 cap (sortedL xs) W1 hH (by omega) (by omega)
    rw [hl] at cS
    go_wp2_with fail
    with_reducible refine cS.mono ?_
    rintro e w' ⟨rfl, q, rfl⟩
    go_wp2
    go_ret
    have h5 := ownsRow_sorted (base := w.heap.size) (n := q) (os := #[]) (ss := sortedL xs) (ts := setCells xs) (by rw [setCells_length, hl]) (by omega) hgb (by omega) r2 r3
    rw [grow_empty, hl] at h5
    have h6 := ownsRow_cut h5 (k := (setOfL xs).length) (setOfL_len xs)
    rw [HTK.out] at h6
    have h7 := grownBy_sorted (w := W1) (g := gb) (n := q) (os := #[]) (setCells xs).toArray
    rw [grow_empty] at h7
    refine ⟨_, _, ?_, h6, hb3.grown h7 hb3.size (fun j hj => by cases hj; omega)⟩
    rw [show (compact (sortedL xs)).length = (setOfL xs).length from HCL.out]
    rfl

end Go.Proofs.YtdncdlcfgljheaaDoor
