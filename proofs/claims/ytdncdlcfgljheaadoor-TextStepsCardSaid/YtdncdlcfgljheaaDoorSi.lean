/- The library's iterator over a slice of texts, and what collects it: slices.Values, AppendSeq, Collect, Sorted. -/
import Derived.RangeFuncBox
import Derived.RangeFuncLeaves
import Derived.Shelf.Abstract
import Derived.OwnWalkIn
import Derived.TacticsInMore
import Derived.LoopNIn
import Derived.LoopIn
import Derived.Maps.AppendAt
import Derived.Sort.OwnSorted
import Derived.Test.YtdncdlcfgljheaaDoorShelf
import Derived.Test.YtdncdlcfgljheaaDoorGt
namespace Go.Proofs.YtdncdlcfgljheaaDoor
open Go.RowKit Go.Shelf Go.Sort

attribute [local go_sem] Oper.semAt_some

def upto (xs : List ByteArray) (k : Nat) : List ByteArray := (List.range k).map fun j => xs[j]?.getD ⟨#[]⟩
theorem upto_succ (xs : List ByteArray) (k : Nat) : upto xs (k + 1) = upto xs k ++ [xs[k]?.getD ⟨#[]⟩] := by simp [upto, List.range_succ]
theorem upto_length (xs : List ByteArray) (k : Nat) : (upto xs k).length = k := by simp [upto]
theorem upto_take (xs : List ByteArray) {k : Nat} (hk : k ≤ xs.length) : upto xs k = xs.take k := by
  apply List.ext_getElem
  · simp [upto, hk]
  · intro i h1 h2
    have : i < xs.length := by simp [upto] at h1; omega
    simp [upto, this]

set_option maxRecDepth 100000 in
set_option maxHeartbeats 2000000 in
theorem values1_in (F : Fence) (n : Nat) (h7 : F.fn 87) (hro : F.round = none) (hn : 1 ≤ n) (l Bs n₀ : Nat) (sv : Value) (xs : List ByteArray) (J Jx : List ByteArray → World → Prop)
    (hY : ∀ pre x W, J pre W → pre.length < xs.length → YieldAt F (n - 1) Tryd.prog l #[.string x] W fun e W' =>
      (e = .returned (.bool true) ∧ J (pre ++ [x]) W' ∧ Below n₀ W W') ∨ (e = .returned (.bool false) ∧ Jx (pre ++ [x]) W'))
    (W : World) (hBs : W.cell? ⟨Bs, 0, none⟩ = some sv) (hI : RdS W n₀ sv xs) (h0 : J [] W) :
    CallsIn F n Tryd.prog 87 #[.func (.yield l) #[] #[], .pointer (some ⟨Bs, 0, none⟩)] W fun e W' => (∃ v, e = .returned v) ∧
      ((∃ ys, ys = xs ∧ J ys W') ∨ (∃ pre, pre <+: xs ∧ Jx pre W')) := by
  obtain ⟨a, c, rfl, hc, hm, hx⟩ := hI
  unfold maxLen at hm
  have HT := hid (fun k h => @upto_take xs k h)
  generalize hlen : xs.length = len at *
  refine callsIn_of_wp Tryd.func87 rfl h7 ?_ hro
  simp only [Tryd.ntmps87, List.size_toArray, List.length_cons, List.length_nil, Nat.reduceAdd, Nat.reduceSub, Array.replicate_succ, Array.replicate_zero, List.push_toArray, List.append_toArray, List.nil_append, List.cons_append]
  gi_wp2
  gi_loopw [7] (fun i wr => ∃ k : Nat, k ≤ len ∧ i = .int .i64 k ∧ J (upto xs k) wr ∧ Below n₀ W wr) (fun i _ => len - (intOf i).toNat)
  case atStart => exact ⟨0, Nat.zero_le _, rfl, h0, Below.refl _ _⟩
  case round =>
    obtain ⟨k, hk, rfl, hJs, hnx⟩ := hrel
    by_cases hlt : k < len
    · obtain ⟨b, off, rfl, hb, hcs⟩ := hx (by omega)
      have hg : strF xs k = .string (xs[k]?.getD ⟨#[]⟩) := by simp [strF, List.getD]
      have hcx : wr.cell? ⟨b, off + k, none⟩ = some (.string (xs[k]?.getD ⟨#[]⟩)) := (hnx.cell (p := ⟨b, off + k, none⟩) hb).trans (by rw [hcs k hlt, hg])
      have HU := hid (upto_succ xs k)
      generalize xs[k]?.getD ⟨#[]⟩ = x at *
      obtain ⟨fn, tmps, assign, body, hy, hR⟩ := hY _ x wr hJs (by rw [upto_length]; exact hlt)
      gi_wp2
      refine hR.mono ?_
      rintro e W3 (⟨rfl, hJ3, hk3⟩ | ⟨rfl, hJx3⟩)
      · gi_wp2
        go_roundw
        case rel => exact ⟨k + 1, by omega, by go_num, by rw [HU.out]; exact hJ3, hnx.trans hk3⟩
        case measure =>
          have hw : wrap64 ((k : Int) + 1) = (k : Int) + 1 := by unfold wrap64; omega
          simp [intOf, hw]; omega
      · gi_wp2
        refine bodyPost_ret (results_none rfl _ _ _) rfl ?_
        exact ⟨⟨_, rfl⟩, .inr ⟨_, by rw [← HU.out, HT.out (k + 1) (by omega)]; exact List.take_prefix _ _, hJx3⟩⟩
    · obtain rfl : k = len := by omega
      gi_wp2
      go_end0
      exact ⟨⟨_, rfl⟩, .inl ⟨_, by rw [HT.out k (by omega), ← hlen, List.take_length], hJs⟩⟩

theorem values_stops (F : Fence) (n : Nat) (h7 : F.fn 87) (hro : F.round = none) (hn : 1 ≤ n) (Bs n₀ : Nat) (sv : Value) (xs : List ByteArray) (w : World) (hBs : Bs < w.heap.size) (hn₀ : n₀ ≤ w.heap.size)
    (hc : w.cell? ⟨Bs, 0, none⟩ = some sv) (hI : RdS w n₀ sv xs) :
    SeqStopsK F n Tryd.prog 87 #[.pointer (some ⟨Bs, 0, none⟩)] (fun x : ByteArray => #[Value.string x]) (Below n₀) (fun ys => ys = xs) (fun pre => pre <+: xs) xs.length w := fun l J Jx W hW _ _ hY h0 =>
  values1_in F n h7 hro hn l Bs n₀ sv xs J Jx hY W ((hW.cell (p := ⟨Bs, 0, none⟩) hBs).trans hc) (Rd.below hI hW hn₀) h0

set_option maxHeartbeats 1000000 in
theorem values_in (F : Fence) (n : Nat) (h5 : F.fn 55) (hro : F.round = none) (a : Option Addr) (len c : Nat) (w : World) :
    CallsIn F n Tryd.prog 55 #[.slice a len c] w fun e w' => e = .returned (.func (.func 87) #[] #[.pointer (some ⟨w.heap.size, 0, none⟩)]) ∧ w' = w.alloc (.cells #[.slice a len c] 28) := by
  refine callsIn_of_wp Tryd.func55 rfl h5 ?_ hro
  simp only [Tryd.ntmps55, List.size_toArray, List.length_cons, List.length_nil, Nat.reduceAdd, Nat.reduceSub, Array.replicate_succ, Array.replicate_zero, List.push_toArray, List.append_toArray, List.nil_append, List.cons_append]
  gi_wp2
  go_ret
  exact ⟨rfl, rfl⟩

theorem map_snoc (pre : List ByteArray) (x : ByteArray) : (pre ++ [x]).map Value.string = pre.map Value.string ++ [.string x] := by simp

set_option maxRecDepth 100000 in
set_option maxHeartbeats 2000000 in
/-- AppendSeq onto nil, of the iterator over a slice of texts: the texts again, in new memory. -/
theorem appendSeq_in (F : Fence) (n : Nat) (hA : F.fn 115) (hV : F.fn 87) (hro : F.round = none) (hn : 3 ≤ n) (Bs B : Nat) (sv : Value) (xs : List ByteArray) (w : World) (hBs : Bs < w.heap.size) (hB : B ≤ w.heap.size)
    (hc : w.cell? ⟨Bs, 0, none⟩ = some sv) (hI : RdS w B sv xs) (hlen : xs.length ≤ 1099511627776) :
    CallsIn F n Tryd.prog 115 #[.slice none 0 0, .func (.func 87) #[] #[.pointer (some ⟨Bs, 0, none⟩)]] w fun e W' => ∃ v, e = .returned v ∧
      W'.ownsRow w.heap.size 9 1 v xs.length (xs.map Value.string) ∧ (v = .slice none 0 0 ↔ xs = []) ∧ Below w.heap.size w W' := by
  have h1 : 1 ≤ n := by omega
  obtain ⟨i0, hi, hz0, hz1, hz2⟩ := info_parts info_str
  refine callsIn_of_wp_marks Tryd.func115 rfl hA ?_ hro
  simp only [Tryd.ntmps115, List.size_toArray, List.length_cons, List.length_nil, Nat.reduceAdd, Nat.reduceSub, Array.replicate_succ, Array.replicate_zero, List.push_toArray, List.append_toArray, List.nil_append, List.cons_append]
  gi_wp2
  have bO := Boxed.new w 28 (.slice none 0 0)
  have hB0 : Below w.heap.size w (w.alloc (.cells #[.slice none 0 0] 28)) := (Below.refl _ w).alloc (Nat.le_refl _) _
  refine wpIn_rangeFunc_ownG hro h1 (gf := 87) (lb := #[.pointer (some ⟨Bs, 0, none⟩)]) rfl hV (enters_of Tryd.func87 (by kernel_rfl) rfl)
    (values_stops F (n - 1) hV hro (by omega) Bs w.heap.size sv xs _ (by simp; omega) (by simp) ((hB0.cell (p := ⟨Bs, 0, none⟩) hBs).trans hc) (Rd.more (Rd.below hI hB0 hB) hB)) belowK_t (belowK_b (by simp)) (Below.refl _ _) (fun _ => rfl)
    (fun pre W => (∃ v, Boxed W w.heap.size 28 v ∧ W.ownsRow w.heap.size 9 1 v pre.length (pre.map Value.string) ∧ (v = .slice none 0 0 ↔ pre = [])) ∧ Below w.heap.size w W)
    (fun _ _ _ => False)
    (OwnFrom.and (Own.from (holdsRow_own w.heap.size w.heap.size 28 9 1 (fun pre : List ByteArray => pre.length) (fun pre => pre.map Value.string) (fun pre v => v = .slice none 0 0 ↔ pre = [])) _) (ownFrom_below (Nat.le_refl _) (by simp)))
    (fun _ _ _ _ _ hs _ _ => hs)
    ⟨⟨_, bO, World.ownsRow_nil _ _ _ _, by simp⟩, hB0⟩
    (fun x => { tmps := #[.slice none 0 0, .func (.func 87) #[] #[.pointer (some ⟨Bs, 0, none⟩)], .pointer (some ⟨w.heap.size, 0, none⟩), undef, .slice none 0 0, .string x, .func (.func 87) #[] #[.pointer (some ⟨Bs, 0, none⟩)], .string x, undef, undef, undef, undef, undef], defers := [] }) ?assign ?body ?done ?stop
  case assign =>
    intro l x W K hK
    gi_wp2
    exact hK
  case body =>
    rintro l pre x W ⟨⟨v, hv, hrow, hnil⟩, hB'⟩ hlt
    have hc := hv.cell
    gi_wp2_with (gi_at_builtin; refine wpListIn_append_own _ rfl _ _ 28 rfl w.heap.size 9 i0 (.string ⟨#[]⟩) 1 16 Tryd.underlying28 hi hz0 hz1 hz2 rfl (by decide) _ _ _ rfl (hrow.alloc _) ⟨W.heap.size, 0, none⟩ 1 1 [.string x] rfl rfl (cell_one_new _ _ _) (by simp [Value.oneCell']) (by unfold maxLen; omega) (by omega) (by have := hB'.size; simp; omega) ?_; intro v' w1 hown' hgrow _; obtain ⟨g', cap', rfl⟩ := ownsRow_succ hown'; obtain ⟨hv1, hv2, hr2, hk2, hb2⟩ := hv.appended (by decide) hrow hB'.size (Nat.le_refl _) hown' hgrow; have hc1 := hv1.cell; have hf1 := hv1.frozen)
    exact ⟨hk2.from _, hb2, ⟨_, hv2, by rw [map_snoc]; simpa using hr2, by simp⟩, hB'.trans hb2⟩
  case done =>
    rintro D ys W hD rfl ⟨⟨v, hv, hrow, hnil⟩, hB'⟩ hK
    have hc := hv.cell
    gi_wp2
    refine ⟨by simp, .inl ⟨_, _, rfl, run_takeDeferred hK, ?_⟩⟩
    exact ⟨_, results_tmp rfl _ _ _, v, rfl, ownsRow_putObj hrow _ hK rfl, hnil, hB'.trans (belowK_b (w := w) (Nat.le_refl _) W D _ _ (by simp at hD; omega) hK rfl rfl)⟩
  case stop =>
    rintro D c pre W _ _ h _
    exact h.elim

set_option maxHeartbeats 1000000 in
theorem collect_in (F : Fence) (n : Nat) (hC : F.fn 85) (hA : F.fn 115) (hV : F.fn 87) (hro : F.round = none) (hn : 4 ≤ n) (Bs B : Nat) (sv : Value) (xs : List ByteArray) (w : World) (hBs : Bs < w.heap.size) (hB : B ≤ w.heap.size)
    (hc : w.cell? ⟨Bs, 0, none⟩ = some sv) (hI : RdS w B sv xs) (hlen : xs.length ≤ 1099511627776) :
    CallsIn F n Tryd.prog 85 #[.func (.func 87) #[] #[.pointer (some ⟨Bs, 0, none⟩)]] w fun e W' => ∃ v, e = .returned v ∧
      W'.ownsRow w.heap.size 9 1 v xs.length (xs.map Value.string) ∧ (v = .slice none 0 0 ↔ xs = []) ∧ Below w.heap.size w W' := by
  have h1 : 1 ≤ n := by omega
  refine callsIn_of_wp Tryd.func85 rfl hC ?_ hro
  simp only [Tryd.ntmps85, List.size_toArray, List.length_cons, List.length_nil, Nat.reduceAdd, Nat.reduceSub, Array.replicate_succ, Array.replicate_zero, List.push_toArray, List.append_toArray, List.nil_append, List.cons_append]
  gi_wp2_with (gi_at_call 115; refine (appendSeq_in F (n - 1) hA hV hro (by omega) Bs B sv xs w hBs hB hc hI hlen).mono ?_; rintro e w' ⟨v, rfl, h2, h3, h4⟩)
  go_ret
  exact ⟨v, rfl, h2, h3, h4⟩

end Go.Proofs.YtdncdlcfgljheaaDoor
