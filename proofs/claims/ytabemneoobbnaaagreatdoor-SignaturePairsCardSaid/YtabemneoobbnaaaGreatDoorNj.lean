/- Plain: columns by their sizes. No program in sight. Contracts of the dice's Index, and of posting.Sizes. -/
import Derived.Test.YtabemneoobbnaaaGreatDoorBs
import Derived.Test.YtabemneoobbnaaaGreatDoorNi
namespace Go.Proofs.YtabemneoobbnaaaGreatDoor
open Go.RowKit

/-- the numbers of the columns of some sizes -/
def sizesL (zs : List Int) (low high : Int) : List Nat := (List.range zs.length).filter fun i => decide (low ≤ zs.getD i 0) && decide (zs.getD i 0 ≤ high)
theorem sizes_mem {zs : List Int} {low high : Int} {i : Nat} : i ∈ sizesL zs low high ↔ i < zs.length ∧ low ≤ zs.getD i 0 ∧ zs.getD i 0 ≤ high := by
  simp [sizesL, List.mem_filter]
theorem sizes_asc (zs : List Int) (low high : Int) : (sizesL zs low high).Pairwise (· < ·) := List.Pairwise.sublist List.filter_sublist List.pairwise_lt_range
theorem sizes_lt {zs : List Int} {low high : Int} {i : Nat} (h : i < (sizesL zs low high).length) : (sizesL zs low high).getD i 0 < zs.length := by
  have : (sizesL zs low high).getD i 0 ∈ sizesL zs low high := by simp [List.getD, h]
  exact (sizes_mem.1 this).1
theorem sizes_up {zs : List Int} {low high : Int} {i : Nat} (h : i + 1 < (sizesL zs low high).length) : (sizesL zs low high).getD i 0 < (sizesL zs low high).getD (i + 1) 0 := by
  have h1 := List.pairwise_iff_getElem.1 (sizes_asc zs low high) i (i + 1) (by omega) h (by omega)
  simpa [List.getD, h, show i < (sizesL zs low high).length by omega] using h1
theorem sizes_count (zs : List Int) (low high : Int) (i : Nat) : (sizesL zs low high).count i = if i < zs.length ∧ low ≤ zs.getD i 0 ∧ zs.getD i 0 ≤ high then 1 else 0 := by
  have hn : (sizesL zs low high).Nodup := (sizes_asc zs low high).imp fun h => Nat.ne_of_lt h
  split
  · rename_i h
    have h1 := List.nodup_iff_count.1 hn i
    have h2 := List.count_pos_iff.2 (sizes_mem.2 h)
    omega
  · rename_i h
    exact List.count_eq_zero.2 fun hm => h (sizes_mem.1 hm)
theorem sizes_len (zs : List Int) (low high : Int) : (sizesL zs low high).length ≤ zs.length := by
  have := List.length_filter_le (fun i => decide (low ≤ zs.getD i 0) && decide (zs.getD i 0 ≤ high)) (List.range zs.length)
  simpa [sizesL] using this
theorem sizes_none (zs : List Int) {low high : Int} (h : high < low) : sizesL zs low high = [] := by
  unfold sizesL
  rw [List.filter_eq_nil_iff]
  intro i _
  simp
  omega
/-- the first columns' part -/
def sizesK (zs : List Int) (low high : Int) (k : Nat) : List Nat := (List.range k).filter fun i => decide (low ≤ zs.getD i 0) && decide (zs.getD i 0 ≤ high)
theorem sizesK_succ (zs : List Int) (low high : Int) (k : Nat) : sizesK zs low high (k + 1) = sizesK zs low high k ++ if low ≤ zs.getD k 0 ∧ zs.getD k 0 ≤ high then [k] else [] := by
  unfold sizesK
  rw [List.range_succ, List.filter_append]
  congr 1
  by_cases h1 : low ≤ zs.getD k 0 <;> by_cases h2 : zs.getD k 0 ≤ high <;> simp [List.filter_cons, h1, h2]
theorem sizesK_all (zs : List Int) (low high : Int) : sizesK zs low high zs.length = sizesL zs low high := rfl
theorem sizesK_len (zs : List Int) (low high : Int) (k : Nat) : (sizesK zs low high k).length ≤ k := by
  have := List.length_filter_le (fun i => decide (low ≤ zs.getD i 0) && decide (zs.getD i 0 ≤ high)) (List.range k)
  simpa [sizesK] using this
/-- ranges that lie side by side -/
theorem sizes_divide {zs : List Int} {low high top : Int} (hz : ∀ i, i < zs.length → 0 ≤ zs.getD i 0 ∧ zs.getD i 0 ≤ top) (hlh : low ≤ high) {i : Nat} (hi : i < zs.length) :
    (sizesL zs 0 (low - 1)).count i + (sizesL zs low high).count i + (sizesL zs (high + 1) top).count i = 1 := by
  have := hz i hi
  rw [sizes_count, sizes_count, sizes_count]
  rcases Int.lt_or_le (zs.getD i 0) low with h1 | h1
  · rw [if_pos ⟨hi, by omega, by omega⟩, if_neg (by omega), if_neg (by omega)]
  · rcases Int.lt_or_le high (zs.getD i 0) with h2 | h2
    · rw [if_neg (by omega), if_neg (by omega), if_pos ⟨hi, by omega, by omega⟩]
    · rw [if_neg (by omega), if_pos ⟨hi, by omega, by omega⟩, if_neg (by omega)]
theorem count_take (xs : List Nat) {k : Nat} (h : k < xs.length) (j : Nat) : (xs.take (k + 1)).count j = (xs.take k).count j + if xs.getD k 0 = j then 1 else 0 := by
  rw [List.take_succ_eq_append_getElem h, List.count_append]
  congr 1
  have e : xs.getD k 0 = xs[k] := by simp [List.getD, h]
  rw [e, List.count_singleton]
  by_cases h1 : xs[k] = j <;> simp [h1]

end Go.Proofs.YtabemneoobbnaaaGreatDoor

namespace Go.Proofs.YtabemneoobbnaaaGreatDoor
open Go.RowKit

/-- the sizes of the columns of an index -/
def sizeZ (es : List ((Int × Nat) × Nat)) : List Int := es.map fun e => (e.2 : Int)
theorem sizeZ_at {es : List ((Int × Nat) × Nat)} {i : Nat} (h : i < es.length) : (sizeZ es).getD i 0 = ((es.getD i ((0, 0), 0)).2 : Int) := by simp [sizeZ, List.getD, h]

def GivesN (w : World) (xs : List Nat) (e : Ending) (w' : World) : Prop :=
  ∃ a c, e = .returned (.slice a xs.length c) ∧ InN w' (News w w') (.slice a xs.length c) xs ∧ Below w.heap.size w w'

set_option maxRecDepth 100000 in
set_option maxHeartbeats 1000000 in
theorem posting_Sizes (ev : Value) (va la : Option Addr) (n2 vc n3 lc : Nat) (es : List ((Int × Nat) × Nat)) (low high : Int) (B : Nat) (w : World) (hv : InK 3 w (· < B) ev es.length (entF es)) (hB : B ≤ w.heap.size) (hl : es.length ≤ 65536) :
    Calls Tryz.prog 25 #[.agg #[ev, .slice va n2 vc, .slice la n3 lc], .int .i64 low, .int .i64 high] w (GivesN w (sizesL (sizeZ es) low high)) := by
  obtain ⟨a, k, rfl, hk, hm, hrd⟩ := hv
  obtain ⟨m0, hm0, hu0, hu1, hu2⟩ := info_parts info_int'
  have HRD := hid hrd
  have HSU := hid (sizesK_succ (sizeZ es) low high)
  have HSL := hid (sizesK_len (sizeZ es) low high)
  have HAT := hid (fun i h => @sizeZ_at es i h)
  have HFIN : Hid (sizesL (sizeZ es) low high = sizesK (sizeZ es) low high es.length) := hid (by rw [← sizesK_all]; simp [sizeZ])
  clear hrd
  generalize sizesL (sizeZ es) low high = F at *
  generalize hcl : es.length = L at *
  have HCL := hid hcl
  clear hcl
  unfold maxLen at hm
  go_enter Tryz.func25, Tryz.ntmps25
  go_wp2_with fail
  go_loopg [7, 13] L (fun N v i wr => ∃ q : Nat, q + N = L ∧ i = .int .i64 (q : Int) ∧ Hid (Below w.heap.size w wr ∧ wr.ownsRow w.heap.size 3 1 v (sizesK (sizeZ es) low high q).length (natsV (sizesK (sizeZ es) low high q))))
  case atStart => exact ⟨0, by omega, rfl, hid ⟨by have := Below.refl w.heap.size w; repeat' (first | (with_reducible exact Below.refl _ _) | (with_reducible assumption) | (with_reducible refine below_drewN ?_) | (with_reducible refine Below.alloc ?_ ?_ _) | (with_reducible refine Below.drew ?_) | (with_reducible refine Below.setCell ?_ ?_ _) | (with_reducible refine Below.trans ?_ (Below.mono (by with_reducible assumption) ?_)) | go_size), World.ownsRow_nil _ _ _ _⟩⟩
  case round =>
    obtain ⟨q, hq, rfl, HST⟩ := hrel
    obtain ⟨a3, c3, rfl⟩ := own_slice HST.out.2
    have hsl := HSL.out q
    by_cases hp : 0 < gk
    · obtain ⟨b, o, rfl, hb, hcell⟩ := HRD.out (by omega)
      have hb' : b < B := hb
      have hbw : b < w.heap.size := by omega
      have hwz := HST.out.1.size
      have k0 : wr.cell? ⟨b, o + q * 3, none⟩ = some (.int .i64 (es.getD q ((0, 0), 0)).1.1) := (HST.out.1.cell (p := ⟨b, o + q * 3, none⟩) hbw).trans (hcell q (by omega) 0 (by omega))
      have k1 : wr.cell? ⟨b, o + q * 3 + 1, none⟩ = some (.int .i64 ((es.getD q ((0, 0), 0)).1.2 : Int)) := (HST.out.1.cell (p := ⟨b, o + q * 3 + 1, none⟩) hbw).trans (hcell q (by omega) 1 (by omega))
      have k2 : wr.cell? ⟨b, o + q * 3 + 2, none⟩ = some (.int .i64 ((es.getD q ((0, 0), 0)).2 : Int)) := (HST.out.1.cell (p := ⟨b, o + q * 3 + 2, none⟩) hbw).trans (hcell q (by omega) 2 (by omega))
      have HSQ := HSU.out q
      rw [HAT.out q (by have := HCL.out; omega)] at HSQ
      have HSQ' := hid HSQ
      clear hcell HSQ
      generalize es.getD q ((0, 0), 0) = en at *
      obtain ⟨⟨ti, ki⟩, sz⟩ := en
      simp only at k0 k1 k2
      generalize hcur : sizesK (sizeZ es) low high q = cur at *
      clear hcur
      have HOE := hid (HST.out.2.alloc (.cells #[.int .i64 ti, .int .i64 (ki : Int), .int .i64 (sz : Int)] 49))
      have HBE := hid (HST.out.1.alloc hwz (.cells #[.int .i64 ti, .int .i64 (ki : Int), .int .i64 (sz : Int)] 49))
      have hz3 : wr.heap.size < (wr.alloc (.cells #[.int .i64 ti, .int .i64 (ki : Int), .int .i64 (sz : Int)] 49)).heap.size := by simp
      generalize hn5 : cur.length = n5 at *
      have HN5 := hid hn5
      clear hn5
      by_cases hin : low ≤ (sz : Int) ∧ (sz : Int) ≤ high
      · obtain ⟨h1, h2⟩ := hin
        have HEQ : Hid (sizesK (sizeZ es) low high (q + 1) = cur ++ [q]) := hid (by rw [HSQ'.out, if_pos ⟨h1, h2⟩])
        go_wp2_with (at_builtin; refine wpList_append_form _ rfl _ _ 30 30 rfl w.heap.size 3 3 m0 (.int .i64 0) 1 8 Tryz.underlying30 Tryz.underlying30 hm0 hu0 hu1 hu2 rfl (by decide) (.slice a3 n5 c3) n5 (natsV cur) rfl (HOE.out.alloc _) (some ⟨_, 0, none⟩) 1 1 [.int .i64 (q : Int)] rfl rfl (fun _ => ⟨_, rfl, cell_one_at _ _ (by simp)⟩) (by intro u hu; simp at hu; subst hu; rfl) (by omega) (by unfold maxLen; omega) (by omega) (by simp; omega) ?_; intro p9 cap9 w9 hown9 hg9 hat9 hlt9; have HOWN9 := hid hown9; have HG9 := hid ((World.grownBy_alloc _ _ _).trans hg9); clear hown9 hg9 hat9)
        have HB5 : Hid (Below w.heap.size w w9) := hid (HBE.out.grown HG9.out HBE.out.size (fun k hk => (HOE.out.lt k hk).1))
        go_wp2
        go_roundg (gk - 1)
        case rel => exact ⟨q + 1, by omega, by go_num, hid ⟨HB5.out, by rw [HEQ.out, List.length_append, List.length_singleton, HN5.out]; have := HOWN9.out; rw [show natsV cur ++ [.int .i64 (q : Int)] = natsV (cur ++ [q]) by simp [natsV]] at this; exact this⟩⟩
        case measure => omega
      · have HEQ : Hid (sizesK (sizeZ es) low high (q + 1) = cur) := hid (by rw [HSQ'.out, if_neg hin, List.append_nil])
        by_cases h1 : low ≤ (sz : Int)
        · have h2 : ¬ ((sz : Int) ≤ high) := fun h => hin ⟨h1, h⟩
          clear hin
          go_wp2
          go_roundg (gk - 1)
          case rel => exact ⟨q + 1, by omega, by go_num, hid ⟨HBE.out, by rw [HEQ.out, HN5.out]; exact HOE.out⟩⟩
          case measure => omega
        · clear hin
          go_wp2
          go_roundg (gk - 1)
          case rel => exact ⟨q + 1, by omega, by go_num, hid ⟨HBE.out, by rw [HEQ.out, HN5.out]; exact HOE.out⟩⟩
          case measure => omega
    · obtain rfl : q = L := by omega
      have HFI : Hid (GivesN w F (.returned (.slice a3 (sizesK (sizeZ es) low high q).length c3)) wr) := hid (by
        rw [HFIN.out]
        exact ⟨a3, c3, rfl, (inN_of_own HST.out.2).more fun b hb => HST.out.2.lt b hb, HST.out.1⟩)
      generalize (sizesK (sizeZ es) low high q).length = n5 at *
      go_wp2
      go_ret
      exact HFI.out

end Go.Proofs.YtabemneoobbnaaaGreatDoor
