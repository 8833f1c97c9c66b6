/- slices.Sorted(slices.Values(..)) at texts, text.Set (Si and Sm at a seat whose shelf is laid by ShT). Contracts of swapping and turning numbers in place (slices.swapRangeCmpFunc, rotateCmpFunc): the same numbers in some order. -/
import Derived.RangeFuncBox
import Derived.RangeFuncLeaves
import Derived.Shelf.Abstract
import Derived.OwnWalkIn
import Derived.TacticsInMore
import Derived.LoopNIn
import Derived.LoopIn
import Derived.Maps.AppendAt
import Derived.Sort.OwnSorted
import Derived.Shelf.SortM.Plain
import Derived.Shelf.SortM.SortNone
import Derived.Shelf.SlicesG.CompactS
import Derived.Test.YtikiimlmoalbcaaGreatDoorOOtam
import Derived.Test.YtikiimlmoalbcaaGreatDoorOOtab
import Derived.Test.YtikiimlmoalbcaaGreatDoorOOtai
import Derived.Deep.Cut
import Derived.Deep.CutRange
import Derived.Deep.RegionHeld3
import Derived.BigRegion
import Derived.Test.YtikiimlmoalbcaaGreatDoorOOtag
set_option linter.unusedVariables false
set_option linter.unusedSimpArgs false
namespace Go.Proofs.YtikiimlmoalbcaaGreatDoor
open Go.RowKit Go.Shelf Go.Sort Go.Lib
attribute [local go_sem] Oper.semAt_some
def upto (xs : List ByteArray) (k : Nat) : List ByteArray := (List.range k).map fun j => xs[j]?.getD ⟨#[]⟩
theorem upto_succ (xs : List ByteArray) (k : Nat) : upto xs (k + 1) = upto xs k ++ [xs[k]?.getD ⟨#[]⟩] := by simp [upto, List.range_succ]
theorem upto_length (xs : List ByteArray) (k : Nat) : (upto xs k).length = k := by simp [upto]
theorem upto_take (xs : List ByteArray) {k : Nat} (hk : k ≤ xs.length) : upto xs k = xs.take k := by
  apply List.ext_getElem
  · simp [upto, hk]
  · intro i h1 h2
    have : i < xs.length := by simp [upto] at h1; omega
    simp [upto, this]
set_option maxRecDepth 100000 in
set_option maxHeartbeats 2000000 in
theorem values1_in (F : Fence) (n : Nat) (h7 : F.fn 170) (hro : F.round = none) (hn : 1 ≤ n) (l Bs n₀ : Nat) (sv : Value) (xs : List ByteArray) (J Jx : List ByteArray → World → Prop)
    (hY : ∀ pre x W, J pre W → pre.length < xs.length → YieldAt F (n - 1) Tryz.prog l #[.string x] W fun e W' =>
      (e = .returned (.bool true) ∧ J (pre ++ [x]) W' ∧ Below n₀ W W') ∨ (e = .returned (.bool false) ∧ Jx (pre ++ [x]) W'))
    (W : World) (hBs : W.cell? ⟨Bs, 0, none⟩ = some sv) (hI : RdS W n₀ sv xs) (h0 : J [] W) :
    CallsIn F n Tryz.prog 170 #[.func (.yield l) #[] #[], .pointer (some ⟨Bs, 0, none⟩)] W fun e W' => (∃ v, e = .returned v) ∧
      ((∃ ys, ys = xs ∧ J ys W') ∨ (∃ pre, pre <+: xs ∧ Jx pre W')) := by
  obtain ⟨a, c, rfl, hc, hm, hx⟩ := hI
  unfold maxLen at hm
  have HT := hid (fun k h => @upto_take xs k h)
  generalize hlen : xs.length = len at *
  refine callsIn_of_wp Tryz.func170 rfl h7 ?_ hro
  simp only [Tryz.ntmps170, List.size_toArray, List.length_cons, List.length_nil, Nat.reduceAdd, Nat.reduceSub, Array.replicate_succ, Array.replicate_zero, List.push_toArray, List.append_toArray, List.nil_append, List.cons_append]
  gi_wp2
  gi_loopw [7] (fun i wr => ∃ k : Nat, k ≤ len ∧ i = .int .i64 k ∧ J (upto xs k) wr ∧ Below n₀ W wr) (fun i _ => len - (intOf i).toNat)
  case atStart => exact ⟨0, Nat.zero_le _, rfl, h0, Below.refl _ _⟩
  case round =>
    obtain ⟨k, hk, rfl, hJs, hnx⟩ := hrel
    by_cases hlt : k < len
    · obtain ⟨b, off, rfl, hb, hcs⟩ := hx (by omega)
      have hg : strF xs k = .string (xs[k]?.getD ⟨#[]⟩) := by simp [strF, List.getD]
      have hcx : wr.cell? ⟨b, off + k, none⟩ = some (.string (xs[k]?.getD ⟨#[]⟩)) := (hnx.cell (p := ⟨b, off + k, none⟩) hb).trans (by rw [hcs k hlt, hg])
      have HU := hid (upto_succ xs k)
      generalize xs[k]?.getD ⟨#[]⟩ = x at *
      obtain ⟨fn, tmps, assign, body, hy, hR⟩ := hY _ x wr hJs (by rw [upto_length]; exact hlt)
      gi_wp2
      refine hR.mono ?_
      rintro e W3 (⟨rfl, hJ3, hk3⟩ | ⟨rfl, hJx3⟩)
      · gi_wp2
        go_roundw
        case rel => exact ⟨k + 1, by omega, by go_num, by rw [HU.out]; exact hJ3, hnx.trans hk3⟩
        case measure =>
          have hw : wrap64 ((k : Int) + 1) = (k : Int) + 1 := by unfold wrap64; omega
          simp [intOf, hw]; omega
      · gi_wp2
        refine bodyPost_ret (results_none rfl _ _ _) rfl ?_
        exact ⟨⟨_, rfl⟩, .inr ⟨_, by rw [← HU.out, HT.out (k + 1) (by omega)]; exact List.take_prefix _ _, hJx3⟩⟩
    · obtain rfl : k = len := by omega
      gi_wp2
      go_end0
      exact ⟨⟨_, rfl⟩, .inl ⟨_, by rw [HT.out k (by omega), ← hlen, List.take_length], hJs⟩⟩
theorem values_stops (F : Fence) (n : Nat) (h7 : F.fn 170) (hro : F.round = none) (hn : 1 ≤ n) (Bs n₀ : Nat) (sv : Value) (xs : List ByteArray) (w : World) (hBs : Bs < w.heap.size) (hn₀ : n₀ ≤ w.heap.size)
    (hc : w.cell? ⟨Bs, 0, none⟩ = some sv) (hI : RdS w n₀ sv xs) :
    SeqStopsK F n Tryz.prog 170 #[.pointer (some ⟨Bs, 0, none⟩)] (fun x : ByteArray => #[Value.string x]) (Below n₀) (fun ys => ys = xs) (fun pre => pre <+: xs) xs.length w := fun l J Jx W hW _ _ hY h0 =>
  values1_in F n h7 hro hn l Bs n₀ sv xs J Jx hY W ((hW.cell (p := ⟨Bs, 0, none⟩) hBs).trans hc) (Rd.below hI hW hn₀) h0
set_option maxHeartbeats 1000000 in
theorem values_in (F : Fence) (n : Nat) (h5 : F.fn 128) (hro : F.round = none) (a : Option Addr) (len c : Nat) (w : World) :
    CallsIn F n Tryz.prog 128 #[.slice a len c] w fun e w' => e = .returned (.func (.func 170) #[] #[.pointer (some ⟨w.heap.size, 0, none⟩)]) ∧ w' = w.alloc (.cells #[.slice a len c] 27) := by
  refine callsIn_of_wp Tryz.func128 rfl h5 ?_ hro
  simp only [Tryz.ntmps128, List.size_toArray, List.length_cons, List.length_nil, Nat.reduceAdd, Nat.reduceSub, Array.replicate_succ, Array.replicate_zero, List.push_toArray, List.append_toArray, List.nil_append, List.cons_append]
  gi_wp2
  go_ret
  exact ⟨rfl, rfl⟩
theorem map_snoc (pre : List ByteArray) (x : ByteArray) : (pre ++ [x]).map Value.string = pre.map Value.string ++ [.string x] := by simp
set_option maxRecDepth 100000 in
set_option maxHeartbeats 2000000 in
theorem appendSeq_in (F : Fence) (n : Nat) (hA : F.fn 208) (hV : F.fn 170) (hro : F.round = none) (hn : 3 ≤ n) (Bs B : Nat) (sv : Value) (xs : List ByteArray) (w : World) (hBs : Bs < w.heap.size) (hB : B ≤ w.heap.size)
  (hc : w.cell? ⟨Bs, 0, none⟩ = some sv) (hI : RdS w B sv xs) (hlen : xs.length ≤ 1099511627776) :
  CallsIn F n Tryz.prog 208 #[.slice none 0 0, .func (.func 170) #[] #[.pointer (some ⟨Bs, 0, none⟩)]] w fun e W' => ∃ v, e = .returned v ∧
   W'.ownsRow w.heap.size 9 1 v xs.length (xs.map Value.string) ∧ (v = .slice none 0 0 ↔ xs = []) ∧ Below w.heap.size w W' := by
 have h1 : 1 ≤ n := by omega
 obtain ⟨i0, hi, hz0, hz1, hz2⟩ := info_parts info_str
 refine callsIn_of_wp_marks Tryz.func208 rfl hA ?_ hro
 simp only [Tryz.ntmps208, List.size_toArray, List.length_cons, List.length_nil, Nat.reduceAdd, Nat.reduceSub, Array.replicate_succ, Array.replicate_zero, List.push_toArray, List.append_toArray, List.nil_append, List.cons_append]
 gi_wp2
 have bO := Boxed.new w 27 (.slice none 0 0)
 have hB0 : Below w.heap.size w (w.alloc (.cells #[.slice none 0 0] 27)) := (Below.refl _ w).alloc (Nat.le_refl _) _
 refine wpIn_rangeFunc_ownG hro h1 (gf := 170) (lb := #[.pointer (some ⟨Bs, 0, none⟩)]) rfl hV (enters_of Tryz.func170 (by kernel_rfl) rfl)
  (values_stops F (n - 1) hV hro (by omega) Bs w.heap.size sv xs _ (by simp; omega) (by simp) ((hB0.cell (p := ⟨Bs, 0, none⟩) hBs).trans hc) (Rd.more (Rd.below hI hB0 hB) hB)) belowK_t (belowK_b (by simp)) (Below.refl _ _) (fun _ => rfl)
  (fun pre W => (∃ v, Boxed W w.heap.size 27 v ∧ W.ownsRow w.heap.size 9 1 v pre.length (pre.map Value.string) ∧ (v = .slice none 0 0 ↔ pre = [])) ∧ Below w.heap.size w W)
  (fun _ _ _ => False)
  (OwnFrom.and (Own.from (holdsRow_own w.heap.size w.heap.size 27 9 1 (fun pre : List ByteArray => pre.length) (fun pre => pre.map Value.string) (fun pre v => v = .slice none 0 0 ↔ pre = [])) _) (ownFrom_below (Nat.le_refl _) (by simp)))
  (fun _ _ _ _ _ hs _ _ => hs)
  ⟨⟨_, bO, World.ownsRow_nil _ _ _ _, by simp⟩, hB0⟩
  (fun x => { tmps := #[.slice none 0 0, .func (.func 170) #[] #[.pointer (some ⟨Bs, 0, none⟩)], .pointer (some ⟨w.heap.size, 0, none⟩), undef, .slice none 0 0, .string x, .func (.func 170) #[] #[.pointer (some ⟨Bs, 0, none⟩)], .string x, undef, undef, undef, undef, undef], defers := [] }) ?assign ?body ?done ?stop
 case assign =>
  intro l x W K hK
  gi_wp2
  exact hK
 case body =>
  rintro l pre x W ⟨⟨v, hv, hrow, hnil⟩, hB'⟩ hlt
  have hc := hv.cell
  gi_wp2_with (gi_at_builtin; refine wpListIn_append_own _ rfl _ _ 27 rfl w.heap.size 9 i0 (.string ⟨#[]⟩) 1 16 Tryz.underlying27 hi hz0 hz1 hz2 rfl (by decide) _ _ _ rfl (hrow.alloc _) ⟨W.heap.size, 0, none⟩ 1 1 [.string x] rfl rfl (cell_one_new _ _ _) (by simp [Value.oneCell']) (by unfold maxLen; omega) (by omega) (by have := hB'.size; simp; omega) ?_; intro v' w1 hown' hgrow _; obtain ⟨g', cap', rfl⟩ := ownsRow_succ hown'; obtain ⟨hv1, hv2, hr2, hk2, hb2⟩ := hv.appended (by decide) hrow hB'.size (Nat.le_refl _) hown' hgrow; have hc1 := hv1.cell; have hf1 := hv1.frozen)
  exact ⟨hk2.from _, hb2, ⟨_, hv2, by rw [map_snoc]; simpa using hr2, by simp⟩, hB'.trans hb2⟩
 case done =>
  rintro D ys W hD rfl ⟨⟨v, hv, hrow, hnil⟩, hB'⟩ hK
  have hc := hv.cell
  gi_wp2
  refine ⟨by simp, .inl ⟨_, _, rfl, run_takeDeferred hK, ?_⟩⟩
  exact ⟨_, results_tmp rfl _ _ _, v, rfl, ownsRow_putObj hrow _ hK rfl, hnil, hB'.trans (belowK_b (w := w) (Nat.le_refl _) W D _ _ (by simp at hD; omega) hK rfl rfl)⟩
 case stop =>
  rintro D c pre W _ _ h _
  exact h.elim
set_option maxHeartbeats 1000000 in
theorem collect_in (F : Fence) (n : Nat) (hC : F.fn 168) (hA : F.fn 208) (hV : F.fn 170) (hro : F.round = none) (hn : 4 ≤ n) (Bs B : Nat) (sv : Value) (xs : List ByteArray) (w : World) (hBs : Bs < w.heap.size) (hB : B ≤ w.heap.size)
    (hc : w.cell? ⟨Bs, 0, none⟩ = some sv) (hI : RdS w B sv xs) (hlen : xs.length ≤ 1099511627776) :
    CallsIn F n Tryz.prog 168 #[.func (.func 170) #[] #[.pointer (some ⟨Bs, 0, none⟩)]] w fun e W' => ∃ v, e = .returned v ∧
      W'.ownsRow w.heap.size 9 1 v xs.length (xs.map Value.string) ∧ (v = .slice none 0 0 ↔ xs = []) ∧ Below w.heap.size w W' := by
  have h1 : 1 ≤ n := by omega
  refine callsIn_of_wp Tryz.func168 rfl hC ?_ hro
  simp only [Tryz.ntmps168, List.size_toArray, List.length_cons, List.length_nil, Nat.reduceAdd, Nat.reduceSub, Array.replicate_succ, Array.replicate_zero, List.push_toArray, List.append_toArray, List.nil_append, List.cons_append]
  gi_wp2_with (gi_at_call 208; refine (appendSeq_in F (n - 1) hA hV hro (by omega) Bs B sv xs w hBs hB hc hI hlen).mono ?_; rintro e w' ⟨v, rfl, h2, h3, h4⟩)
  go_ret
  exact ⟨v, rfl, h2, h3, h4⟩
theorem tx_Sort (blk off cap : Nat) (ss : List (List UInt8)) (w : World) (hH : Holds encStr w blk off ss.toArray) (hblk : blk < w.heap.size) (hsz : ss.length < 4611686018427387904) :
    Calls Tryz.prog 169 #[.slice (some ⟨blk, off, none⟩) ss.length cap] w fun e w' =>
      e = .returned (.tuple #[]) ∧ ∃ n os, w' = grow (putRow encStr (Sort.ahead w n) blk off (ss.mergeSort fun x y => decide (x ≤ y)).toArray) os := AnyM.slices_Sort_string Tryz.sortTx blk off cap ss w hH hblk hsz
theorem tx_Sort_none (p : Option Addr) (cap : Nat) (w : World) : Calls Tryz.prog 169 #[.slice p 0 cap] w fun e w' => e = .returned (.tuple #[]) ∧ w' = w := AnyM.slices_Sort_string_none Tryz.sortTx p cap w
theorem tx_Compact (blk off cap : Nat) (zs : List (List UInt8)) (w : World) (hH : Holds encStr w blk off zs.toArray) (hsz : zs.length ≤ 9223372036854775807) (hcap : zs.length ≤ cap) :
    Calls Tryz.prog 126 #[.slice (some ⟨blk, off, none⟩) zs.length cap] w fun e w' => e = .returned (.slice (some ⟨blk, off, none⟩) (Lib.compact zs).length cap) ∧ ∃ q, w' = putRow encStr (Sort.ahead w q) blk off (Lib.compact zs ++ List.replicate (zs.length - (Lib.compact zs).length) []).toArray := AnyG.slices_Compact_string Tryz.compactTx blk off cap zs w hH hsz hcap
theorem tx_Compact_empty (a : Option Addr) (cap : Nat) (w : World) : Calls Tryz.prog 126 #[.slice a 0 cap] w fun e w' => e = .returned (.slice a 0 cap) ∧ w' = w := AnyG.slices_Compact_string_empty Tryz.compactTx a cap w
theorem ownsRow_cut {w : World} {base : Nat} {e : TypeId} {g cap n k : Nat} {xs : List Value} (h : w.ownsRow base e 1 (.slice (some ⟨g, 0, none⟩) n cap) n xs) (hk : k ≤ n) : w.ownsRow base e 1 (.slice (some ⟨g, 0, none⟩) k cap) k (xs.take k) := by
  obtain ⟨hl, h⟩ := h
  rcases h with ⟨h0, _⟩ | ⟨g', cap', cur, hv, hb, hg, hn, hm, hs, ht⟩
  · cases h0
  · cases hv
    exact ⟨by simp; omega, .inr ⟨g, cap, cur, rfl, hb, hg, by omega, hm, hs, by rw [← ht, List.take_take]; congr 1; omega⟩⟩
theorem enc_map (xs : List ByteArray) : xs.map Value.string = (xs.map listOf).map encStr := by
  rw [List.map_map]
  apply List.map_congr_left
  intro x _
  simp [listOf]
def sortedL (xs : List ByteArray) : List (List UInt8) := (xs.map listOf).mergeSort fun x y => decide (x ≤ y)
theorem sortedL_length (xs : List ByteArray) : (sortedL xs).length = xs.length := by unfold sortedL; simp
def setCells (xs : List ByteArray) : List (List UInt8) := compact (sortedL xs) ++ List.replicate (xs.length - (compact (sortedL xs)).length) []
theorem setCells_length (xs : List ByteArray) : (setCells xs).length = xs.length := by
  have h1 : (compact (sortedL xs)).length = (setOfL xs).length := compact_len xs
  have h2 := setOfL_len xs
  unfold setCells
  simp
  omega
theorem setCells_take (xs : List ByteArray) : ((setCells xs).map encStr).take (setOfL xs).length = (setOfL xs).map Value.string := by
  have h1 : (compact (sortedL xs)).length = (setOfL xs).length := compact_len xs
  unfold setCells
  rw [List.map_append, List.take_append_of_le_length (by simp; omega), List.take_of_length_le (by simp; omega), ← compact_sorted, List.map_map]
  rfl
def SortedP (w : World) (xs : List ByteArray) (e : Ending) (W' : World) : Prop :=
  ∃ v, e = .returned v ∧ W'.ownsRow w.heap.size 9 1 v xs.length ((sortedL xs).map encStr) ∧ Below w.heap.size w W'
set_option maxHeartbeats 1000000 in
theorem slices_Sorted (Bs B : Nat) (sv : Value) (xs : List ByteArray) (w : World) (hBs : Bs < w.heap.size) (hB : B ≤ w.heap.size)
    (hc : w.cell? ⟨Bs, 0, none⟩ = some sv) (hI : RdS w B sv xs) (hlen : xs.length ≤ 1099511627776) :
    Calls Tryz.prog 127 #[.func (.func 170) #[] #[.pointer (some ⟨Bs, 0, none⟩)]] w (SortedP w xs) := by
  have hcol := callsIn_wide.1 (collect_in Fence.wide 5 trivial trivial trivial rfl (by omega) Bs B sv xs w hBs hB hc hI hlen)
  go_enter Tryz.func127, Tryz.ntmps127
  go_wp2_with fail
  with_reducible refine hcol.mono ?_
  rintro e W ⟨v, rfl, hrow, hnil, hb⟩
  have hsz : (xs.map listOf).length < 4611686018427387904 := by rw [List.length_map]; omega
  rcases hrow.2 with ⟨rfl, hz⟩ | ⟨gb, cap, cur, rfl, hbase, hgb, r1, r2, r3, r4⟩
  · go_wp2_with fail
    with_reducible refine (tx_Sort_none none 0 W).mono ?_
    rintro e w' ⟨rfl, rfl⟩
    go_wp2
    go_ret
    have hx : xs = [] := List.eq_nil_of_length_eq_zero hz
    subst hx
    exact ⟨_, rfl, by simpa [sortedL] using hrow, hb⟩
  · have hH : Holds encStr W gb 0 (xs.map listOf).toArray := holds_of_block hgb (by rw [← enc_map, List.length_map]; simpa using r4)
    have hgl : gb < W.heap.size := (Array.getElem?_eq_some_iff.1 hgb).1
    have cS := tx_Sort gb 0 cap (xs.map listOf) W hH hgl hsz
    rw [List.length_map] at cS
    go_wp2_with fail
    with_reducible refine cS.mono ?_
    rintro e w' ⟨rfl, nn, os, rfl⟩
    go_wp2
    go_ret
    have hown := ownsRow_sorted (n := nn) (os := os) (ss := xs.map listOf) (ts := sortedL xs) (by rw [sortedL_length, List.length_map]) hbase hgb (by rw [List.length_map]; exact r1) r2 r3
    rw [List.length_map] at hown
    exact ⟨_, rfl, hown, hb.grown (grownBy_sorted _) hb.size (fun j hj => by cases hj; exact hbase)⟩
set_option maxHeartbeats 1000000 in
theorem text_Set (v0 : Value) (xs : List ByteArray) (B : Nat) (w : World) (hv : RdS w B v0 xs) (hB : B ≤ w.heap.size) (hlen : xs.length ≤ 1099511627776) :
    Calls Tryz.prog 67 #[v0] w (GivesS w (setOfL xs)) := by
  have HV := hid hv
  obtain ⟨a, c, rfl, -⟩ := hv
  have hval := callsIn_wide.1 (values_in Fence.wide 5 trivial rfl a xs.length c w)
  have HTK := hid (setCells_take xs)
  have HCL := hid (compact_len xs)
  go_enter Tryz.func67, Tryz.ntmps67
  go_wp2_with fail
  with_reducible refine hval.mono ?_
  rintro e W ⟨rfl, rfl⟩
  have hb1 : Below w.heap.size w (w.alloc (.cells #[.slice a xs.length c] 27)) := (Below.refl _ _).alloc (Nat.le_refl _) _
  have hcell := (Boxed.new w 27 (.slice a xs.length c)).cell
  have hr1 : RdS (w.alloc (.cells #[.slice a xs.length c] 27)) B (.slice a xs.length c) xs := Rd.below HV.out hb1 hB
  go_wp2_with fail
  with_reducible refine (slices_Sorted w.heap.size B _ xs _ (by simp) (by simp; omega) hcell hr1 hlen).mono ?_
  rintro e W1 ⟨v, rfl, hown, hb2⟩
  have hb3 : Below w.heap.size w W1 := hb1.trans (hb2.mono (by simp))
  have hbase0 : w.heap.size ≤ (w.alloc (.cells #[.slice a xs.length c] 27)).heap.size := by simp
  rcases hown.2 with ⟨rfl, hz⟩ | ⟨gb, cap, cur, rfl, hbase, hgb, r1, r2, r3, r4⟩
  · go_wp2_with fail
    with_reducible refine (tx_Compact_empty none 0 W1).mono ?_
    rintro e w' ⟨rfl, rfl⟩
    go_wp2
    go_ret
    have hx : xs = [] := List.eq_nil_of_length_eq_zero hz
    subst hx
    exact ⟨none, 0, rfl, World.ownsRow_nil _ _ _ _, hb3⟩
  · have hl : (sortedL xs).length = xs.length := sortedL_length xs
    have hH : Holds encStr W1 gb 0 (sortedL xs).toArray := holds_of_block hgb (by rw [hl]; simpa using r4)
    have cS := tx_Compact gb 0 cap (sortedL xs) W1 hH (by omega) (by omega)
    rw [hl] at cS
    go_wp2_with fail
    with_reducible refine cS.mono ?_
    rintro e w' ⟨rfl, q, rfl⟩
    go_wp2
    go_ret
    have h5 := ownsRow_sorted (base := w.heap.size) (n := q) (os := #[]) (ss := sortedL xs) (ts := setCells xs) (by rw [setCells_length, hl]) (by omega) hgb (by omega) r2 r3
    rw [grow_empty, hl] at h5
    have h6 := ownsRow_cut h5 (k := (setOfL xs).length) (setOfL_len xs)
    rw [HTK.out] at h6
    have h7 := grownBy_sorted (w := W1) (g := gb) (n := q) (os := #[]) (setCells xs).toArray
    rw [grow_empty] at h7
    refine ⟨_, _, ?_, h6, hb3.grown h7 hb3.size (fun j hj => by cases hj; omega)⟩
    rw [show (compact (sortedL xs)).length = (setOfL xs).length from HCL.out]
    rfl
end Go.Proofs.YtikiimlmoalbcaaGreatDoor

namespace Go.Proofs.YtikiimlmoalbcaaGreatDoor
open Go.RowKit
structure BarZ (w : World) (blk : Nat) (W : World) : Prop where
  os : W.os = w.os
  tape : W.tape = w.tape
  output : W.output = w.output
  size : w.heap.size ≤ W.heap.size
  block : ∀ k, k < w.heap.size → k ≠ blk → W.heap[k]? = w.heap[k]?
theorem BarZ.refl (w : World) (b : Nat) : BarZ w b w := ⟨rfl, rfl, rfl, Nat.le_refl _, fun _ _ _ => rfl⟩
theorem BarZ.trans {a b c : World} {k : Nat} (h : BarZ a k b) (h' : BarZ b k c) : BarZ a k c :=
  ⟨h'.os.trans h.os, h'.tape.trans h.tape, h'.output.trans h.output, Nat.le_trans h.size h'.size, fun x hx hk => (h'.block x (Nat.lt_of_lt_of_le hx h.size) hk).trans (h.block x hx hk)⟩
theorem BarZ.grown {a b c : World} {k : Nat} (h : BarZ a k b) (hg : b.grownBy c (some k)) : BarZ a k c :=
  h.trans ⟨hg.os, hg.tape, hg.output, hg.size, fun x hx hk => hg.block x hx (fun e => hk (Option.some.inj e))⟩
theorem BarZ.quiet {a b c : World} {k : Nat} (h : BarZ a k b) (hb : Below b.heap.size b c) : BarZ a k c :=
  h.trans ⟨hb.os, hb.tape, hb.output, hb.size, fun x hx _ => hb.block x hx⟩
theorem BarZ.drew {a b : World} {k : Nat} (h : BarZ a k b) : BarZ a k b.drew := h.quiet (Below.refl _ _).drew
theorem BarZ.below {w W : World} {blk : Nat} (h : BarZ w blk W) {B : Nat} (h1 : B ≤ w.heap.size) (h2 : B ≤ blk) : Below B w W :=
  ⟨h.os, h.tape, h.output, h.size, fun k hk => h.block k (by omega) (by omega)⟩
theorem BarZ.cell {w W : World} {blk : Nat} (h : BarZ w blk W) {p : Addr} (h1 : p.block < w.heap.size) (h2 : p.block ≠ blk) : W.cell? p = w.cell? p := World.cell?_of_block (h.block _ h1 h2)
theorem ownZ_below {w w' : World} {base : Nat} {e : TypeId} {size n : Nat} {v : Value} {xs : List Value} (h : w.ownsRow base e size v n xs) (hb : Below w.heap.size w w') : w'.ownsRow base e size v n xs := by
  obtain ⟨hl, h⟩ := h
  refine ⟨hl, ?_⟩
  rcases h with ⟨e1, h1⟩ | ⟨g, cap, cur, e1, h2, h3, h4⟩
  · exact .inl ⟨e1, h1⟩
  · exact .inr ⟨g, cap, cur, e1, h2, (hb.block g (Array.getElem?_eq_some_iff.1 h3).1).trans h3, h4⟩
def RowI (w : World) (base b cap n : Nat) (xs : List Nat) : Prop := xs.length = n ∧ w.ownsRow base 3 1 (.slice (some ⟨b, 0, none⟩) n cap) n (natsV xs)
theorem RowI.at {w : World} {base b cap n : Nat} {xs : List Nat} (h : RowI w base b cap n xs) {i : Nat} (hi : i < n) : w.cell? ⟨b, i, none⟩ = some (.int .i64 ((xs.getD i 0 : Nat) : Int)) := by
  rw [h.2.cellAt i (by omega)]
  have h1 : i < xs.length := by rw [h.1]; exact hi
  simp [natsV, List.getD, h1]
theorem RowI.lt {w : World} {base b cap n : Nat} {xs : List Nat} (h : RowI w base b cap n xs) : base ≤ b ∧ b < w.heap.size := h.2.lt b rfl
theorem RowI.later {w w' : World} {base b cap n : Nat} {xs : List Nat} (h : RowI w base b cap n xs) (hb : Below w.heap.size w w') : RowI w' base b cap n xs := ⟨h.1, ownZ_below h.2 hb⟩
def swapN (xs : List Nat) (i j : Nat) : List Nat := (xs.set i (xs.getD j 0)).set j (xs.getD i 0)
theorem swapN_perm {xs : List Nat} {i j : Nat} (hi : i < xs.length) (hj : j < xs.length) : (swapN xs i j).Perm xs := by
  have e1 : xs.getD j 0 = xs[j] := by simp [List.getD, hj]
  have e2 : xs.getD i 0 = xs[i] := by simp [List.getD, hi]
  unfold swapN
  rw [e1, e2]
  exact List.set_set_perm hi hj
theorem RowI.swap {w : World} {base b cap n : Nat} {xs : List Nat} (h : RowI w base b cap n xs) {i j : Nat} (hi : i < n) (hj : j < n) :
    RowI ((w.setCell ⟨b, i, none⟩ (.int .i64 ((xs.getD j 0 : Nat) : Int))).setCell ⟨b, j, none⟩ (.int .i64 ((xs.getD i 0 : Nat) : Int))) base b cap n (swapN xs i j) := by
  have h1 := (h.2.stored i (.int .i64 ((xs.getD j 0 : Nat) : Int))).1
  have h2 := (h1.stored j (.int .i64 ((xs.getD i 0 : Nat) : Int))).1
  refine ⟨by simp [swapN, h.1], ?_⟩
  have e : ((natsV xs).set i (.int .i64 ((xs.getD j 0 : Nat) : Int))).set j (.int .i64 ((xs.getD i 0 : Nat) : Int)) = natsV (swapN xs i j) := by simp [natsV, swapN, List.map_set]
  rw [e] at h2
  exact h2
theorem RowI.swap' {w : World} {base b cap n : Nat} {xs : List Nat} (h : RowI w base b cap n xs) {i j : Nat} (hi : i < n) (hj : j < n) (hij : i ≠ j) :
    RowI ((w.setCell ⟨b, j, none⟩ (.int .i64 ((xs.getD i 0 : Nat) : Int))).setCell ⟨b, i, none⟩ (.int .i64 ((xs.getD j 0 : Nat) : Int))) base b cap n (swapN xs i j) := by
  have h1 := h.swap hj hi
  have e : swapN xs j i = swapN xs i j := by
    unfold swapN
    rw [List.set_comm _ _ (Ne.symm hij)]
  rw [e] at h1
  exact h1
theorem barZ_swap {a w : World} {b : Nat} (h : BarZ a b w) (i j : Nat) (u v : Value) : BarZ a b ((w.setCell ⟨b, i, none⟩ u).setCell ⟨b, j, none⟩ v) := by
  have hg : ∀ (W : World) (i : Nat) (u : Value), W.grownBy (W.setCell ⟨b, i, none⟩ u) (some b) := fun W i u => ⟨rfl, rfl, rfl, by simp, fun k _ hk => Below.heap_setCell _ _ _ _ (fun e => hk (by rw [e]))⟩
  exact (h.grown (hg w i u)).grown (hg _ j v)
def PermP (w : World) (base b cap n : Nat) (xs : List Nat) (e : Ending) (w' : World) : Prop := e = .returned (.tuple #[]) ∧ ∃ ys, ys.Perm xs ∧ RowI w' base b cap n ys ∧ BarZ w b w'
set_option maxRecDepth 100000 in
set_option maxHeartbeats 4000000 in
theorem swap_range (xs : List Nat) (base b cap n x y k : Nat) (f : Value) (w : World) (h : RowI w base b cap n xs) (hx : x + k ≤ n) (hy : y + k ≤ n) (hxy : x ≠ y) (hn : n ≤ 1048576) :
    Calls Tryz.prog 252 #[.slice (some ⟨b, 0, none⟩) n cap, .int .i64 (x : Int), .int .i64 (y : Int), .int .i64 (k : Int), f] w (PermP w base b cap n xs) := by
  have H := hid h
  have hxl := h.1
  clear h
  go_enter Tryz.func252, Tryz.ntmps252
  go_wp2_with fail
  go_loopg [10] k (fun K i wr => ∃ (q : Nat) (ys : List Nat), i = .int .i64 (q : Int) ∧ q + K = k ∧ Hid (ys.Perm xs) ∧ Hid (RowI wr base b cap n ys) ∧ Hid (BarZ w b wr))
  case atStart => exact ⟨0, xs, rfl, by omega, hid (List.Perm.refl _), H, hid (BarZ.refl _ _)⟩
  case round =>
    obtain ⟨q, ys, rfl, hq, HP, HR, HB⟩ := hrel
    by_cases hp : 0 < gk
    · have hqk : (q : Int) < (k : Int) := by omega
      obtain ⟨i, hie⟩ : ∃ i, i = x + q := ⟨_, rfl⟩
      obtain ⟨j, hje⟩ : ∃ j, j = y + q := ⟨_, rfl⟩
      have hi : i < n := by omega
      have hj : j < n := by omega
      have hix : (x : Int) + (q : Int) = (i : Int) := by omega
      have hjx : (y : Int) + (q : Int) = (j : Int) := by omega
      have hii : (i : Int) < (n : Int) := by omega
      have hjj : (j : Int) < (n : Int) := by omega
      have k0 := HR.out.at hi
      have k1 := HR.out.at hj
      have f0 := HR.out.2.frozenAt i
      have f1 := HR.out.2.frozenAt j
      have hne : i ≠ j := by omega
      have HS1 := hid (RowI.swap (w := wr.drew) HR.out hi hj)
      have HS2 := hid (RowI.swap' (w := wr.drew) HR.out hi hj hne)
      have HB1 := hid (fun i j u v => barZ_swap HB.out.drew i j u v)
      have HPM := hid ((swapN_perm (by rw [HR.out.1]; exact hi) (by rw [HR.out.1]; exact hj)).trans HP.out)
      generalize swapN ys i j = zs at *
      generalize ys.getD i 0 = u at *
      generalize ys.getD j 0 = v at *
      clear HP HR HB hie hje hne
      go_upto_region 3 with fail
      go_region
      all_goals
        go_wp2_with fail
        go_roundg (gk - 1)
        case rel => exact ⟨q + 1, zs, by go_num, by omega, HPM, hid (by first | exact HS1.out | exact HS2.out), hid (by first | exact HB1.out _ _ _ _)⟩
        case measure => omega
    · obtain rfl : gk = 0 := by omega
      obtain rfl : q = k := by omega
      have HF : Hid (PermP w base b cap n xs (.returned (.tuple #[])) wr) := hid ⟨rfl, ys, HP.out, HR.out, HB.out⟩
      go_wp2
      go_end0
      exact HF.out
end Go.Proofs.YtikiimlmoalbcaaGreatDoor
