/- Contract of copies.Names. -/
import Derived.Sort.OwnSorted
import Derived.Shelf.SlicesG.Clone
import Derived.Shelf.SlicesG.CompactS
import Derived.Shelf.SlicesG.Equal
import Derived.Shelf.SortM.Plain
import Derived.Shelf.SortM.SortNone
import Derived.Test.YtfcccldofaleoaaGreatDoorCopLesbl
import Derived.Test.YtfcccldofaleoaaGreatDoorCopLesac
namespace Go.Proofs.YtfcccldofaleoaaGreatDoor
open Go.RowKit Go.Shelf Go.Sort Go.Lib

theorem lib_SortS0 (w : World) : Calls Tryz.prog 42 #[.slice none 0 0] w fun e w' => e = .returned (.tuple #[]) ∧ w' = w := AnyM.slices_Sort_string_none Tryz.sortC none 0 w
theorem lib_SortS (blk cap : Nat) (ss : List (List UInt8)) (w : World) (hH : Holds encStr w blk 0 ss.toArray) (hblk : blk < w.heap.size) (hsz : ss.length < 4611686018427387904) :
    Calls Tryz.prog 42 #[.slice (some ⟨blk, 0, none⟩) ss.length cap] w fun e w' =>
      e = .returned (.tuple #[]) ∧ ∃ n os, w' = Go.Sort.grow (putRow encStr (Sort.ahead w n) blk 0 (ss.mergeSort fun x y => decide (x ≤ y)).toArray) os := AnyM.slices_Sort_string Tryz.sortC blk 0 cap ss w hH hblk hsz
theorem lib_CloneS0 (w : World) : Calls Tryz.prog 44 #[.slice none 0 0] w fun e w' => e = .returned (.slice none 0 0) ∧ w' = w := AnyG.slices_Clone_string_nil Tryz.cloneC 0 0 w
theorem lib_CloneS (b n c : Nat) (zs : List ByteArray) (w : World) (hz : n ≤ zs.length) (hbig : n * 16 ≤ 140737488355328) (hc : ∀ j, j < zs.length → w.cell? ⟨b, 0 + j, none⟩ = some (.string (zs.getD j ByteArray.empty))) :
    Calls Tryz.prog 44 #[.slice (some ⟨b, 0, none⟩) n c] w fun e w' => ∃ v', e = .returned v' ∧ w'.ownsRow w.heap.size 9 1 v' n ((zs.take n).map (Value.string)) ∧ v' ≠ .slice none 0 0 ∧ Below w.heap.size w w' := AnyG.slices_Clone_string Tryz.cloneC b 0 n c zs w hz hbig hc
theorem lib_CompactS0 (a : Option Addr) (cap : Nat) (w : World) : Calls Tryz.prog 43 #[.slice a 0 cap] w fun e w' => e = .returned (.slice a 0 cap) ∧ w' = w := AnyG.slices_Compact_string_empty Tryz.compactC a cap w
theorem lib_CompactS (blk cap : Nat) (zs : List (List UInt8)) (w : World) (hH : Holds encStr w blk 0 zs.toArray) (hsz : zs.length ≤ 9223372036854775807) (hcap : zs.length ≤ cap) :
    Calls Tryz.prog 43 #[.slice (some ⟨blk, 0, none⟩) zs.length cap] w fun e w' => e = .returned (.slice (some ⟨blk, 0, none⟩) (Lib.compact zs).length cap) ∧ ∃ q, w' = putRow encStr (Sort.ahead w q) blk 0 (Lib.compact zs ++ List.replicate (zs.length - (Lib.compact zs).length) []).toArray := AnyG.slices_Compact_string Tryz.compactC blk 0 cap zs w hH hsz hcap
theorem lib_EqualS (b1 n c b2 m d : Nat) (xs ys : List ByteArray) (w : World) (hx : n ≤ xs.length) (hy : m ≤ ys.length) (hbig : n ≤ 9223372036854775807) (hbig2 : m ≤ 9223372036854775807) (hc1 : ∀ j, j < xs.length → w.cell? ⟨b1, 0 + j, none⟩ = some (.string (xs.getD j ByteArray.empty))) (hc2 : ∀ j, j < ys.length → w.cell? ⟨b2, 0 + j, none⟩ = some (.string (ys.getD j ByteArray.empty))) :
    Calls Tryz.prog 45 #[.slice (some ⟨b1, 0, none⟩) n c, .slice (some ⟨b2, 0, none⟩) m d] w fun e w' => e = .returned (.bool (decide (xs.take n = ys.take m))) ∧ ∃ q, w' = w.drewN q := AnyG.slices_Equal_string Tryz.equalC b1 0 n c b2 0 m d xs ys w hx hy hbig hbig2 hc1 hc2
theorem lib_EqualS0 (a1 a2 : Option Addr) (c m d : Nat) (w : World) (hbig2 : m ≤ 9223372036854775807) :
    Calls Tryz.prog 45 #[.slice a1 0 c, .slice a2 m d] w fun e w' => e = .returned (.bool (decide (m = 0))) ∧ w' = w := AnyG.slices_Equal_string_empty Tryz.equalC a1 a2 c m d w hbig2

end Go.Proofs.YtfcccldofaleoaaGreatDoor

namespace Go.Proofs.YtfcccldofaleoaaGreatDoor
open Go.RowKit Go.Shelf
open Go.Sort (Holds putRow)

theorem encStr_str (xs : List ByteArray) : (xs.map listOf).map encStr = xs.map Value.string := by
  rw [List.map_map]
  apply List.map_congr_left
  intro x _
  simp [listOf]
theorem sortL_enc (xs : List ByteArray) : (((xs.map listOf).mergeSort fun x y => decide (x ≤ y))).map encStr = (sortL xs).map Value.string := by
  unfold sortL
  rw [List.map_map]
  rfl
theorem sortL_listOf (xs : List ByteArray) : (sortL xs).map listOf = ((xs.map listOf).mergeSort fun x y => decide (x ≤ y)) := by
  unfold sortL
  rw [List.map_map]
  exact (List.map_congr_left fun x _ => listOf_bytesOf x).trans (List.map_id' _)

def NamesP (w : World) (N : List ByteArray) (e : Ending) (w' : World) : Prop :=
  ∃ a c, e = .returned (.tuple #[.slice a N.length c, .bool (decide N.Nodup)]) ∧ w'.ownsRow w.heap.size 9 1 (.slice a N.length c) N.length ((sortL N).map Value.string) ∧ Below w.heap.size w w'
theorem names_succ {xs : List Co} {q : Nat} (h : q < xs.length) : (namesL xs).take (q + 1) = (namesL xs).take q ++ [(xs.getD q Co.z).name] := by
  have h2 : q < (namesL xs).length := by simpa [namesL] using h
  rw [List.take_succ_eq_append_getElem h2, ← namesL_getD]
  simp [List.getD, h2]

set_option maxRecDepth 100000 in
set_option maxHeartbeats 4000000 in
theorem copies_Names (id : Int) (nm : ByteArray) (v : Value) (xs : List Co) (B : Nat) (w : World) (hv : RdCo w (· < B) v xs) (hB : B ≤ w.heap.size) (hl : xs.length ≤ 1048576) :
    Calls Tryz.prog 13 #[.agg #[.int .i64 id, .string nm, v]] w (NamesP w (namesL xs)) := by
  obtain ⟨cv, ⟨a, c, rfl, hc, hm, hr⟩, hkid⟩ := hv
  have HKD : Hid (∀ q, q < xs.length → ∃ a k m, cv q = .slice a k m) := hid (fun q hq => by
    obtain ⟨a, c, e, -⟩ := hkid q hq
    exact ⟨a, _, c, e⟩)
  clear hkid
  obtain ⟨i0, hi0, hz0, hz1, hz2⟩ := info_parts info_str
  have HR := hid hr
  have HNS := hid (fun q (h : q < xs.length) => names_succ h)
  have HNL : Hid ((namesL xs).length = xs.length) := hid (by simp [namesL])
  have hx := BoxN.new w #[.int .i64 id, .string nm, .slice a xs.length c] 24
  have HB0 : Hid (Below w.heap.size w (w.alloc (.cells #[.int .i64 id, .string nm, .slice a xs.length c] 24))) := hid ((Below.refl _ _).alloc (Nat.le_refl _) _)
  have hz : (w.alloc (.cells #[.int .i64 id, .string nm, .slice a xs.length c] 24)).heap.size = w.heap.size + 1 := by simp
  clear hr
  generalize hn : xs.length = n at *
  have HN := hid hn
  clear hn
  unfold maxLen at hm
  have c2 := hx.cell 2 rfl
  have HX := hid hx
  clear hx
  go_enter Tryz.func13, Tryz.ntmps13
  generalize hLA : Code.loop _ = LA
  go_wp2_with fail
  clear c2
  generalize hw0 : w.alloc (.cells #[.int .i64 id, .string nm, .slice a n c] 24) = W0 at *
  clear hw0
  subst hLA
  go_loopg [4, 10] n (fun N v i wr => ∃ q : Nat, q + N = n ∧ i = .int .i64 (q : Int) ∧ Hid (Below w.heap.size w wr ∧ wr.ownsRow w.heap.size 9 1 v ((namesL xs).take q).length (((namesL xs).take q).map Value.string)))
  case atStart => exact ⟨0, by omega, rfl, hid ⟨HB0.out, World.ownsRow_nil _ _ _ _⟩⟩
  case round =>
    obtain ⟨q, hq, rfl, HST⟩ := hrel
    obtain ⟨a3, c3, rfl⟩ := own_slice HST.out.2
    have hql : ((namesL xs).take q).length = q := by rw [List.length_take, HNL.out]; omega
    have HQL := hid hql
    rw [hql] at HST ⊢
    clear hql
    by_cases hp : 0 < gk
    · obtain ⟨b, o, rfl, hb, hcell⟩ := HR.out (by omega)
      have hb' : b < B := hb
      have hwz := HST.out.1.size
      have k0 : wr.cell? ⟨b, o + q * 2, none⟩ = some (.string (xs.getD q Co.z).name) := (HST.out.1.cell (p := ⟨b, o + q * 2, none⟩) (by show b < _; omega)).trans (hcell q (by omega) 0 (by omega))
      have k1 : wr.cell? ⟨b, o + q * 2 + 1, none⟩ = some (cv q) := (HST.out.1.cell (p := ⟨b, o + q * 2 + 1, none⟩) (by show b < _; omega)).trans (hcell q (by omega) 1 (by omega))
      have HS1 := hid (HNS.out q (by omega))
      clear hcell
      obtain ⟨ka, kn, kc, hke⟩ := HKD.out q (by omega)
      rw [hke] at k1
      clear hke
      generalize (xs.getD q Co.z).name = s at *
      generalize hcur : (namesL xs).take q = cur at *
      clear hcur
      have HBA := hid (HST.out.1.alloc hwz (.cells #[.string s, .slice ka kn kc] 30))
      have HOA := hid (HST.out.2.alloc (.cells #[.string s, .slice ka kn kc] 30))
      have hza : (wr.alloc (.cells #[.string s, .slice ka kn kc] 30)).heap.size = wr.heap.size + 1 := by simp
      go_wp2_with (at_builtin; refine wpList_append_form _ rfl _ _ 37 37 rfl w.heap.size 9 9 i0 (.string ⟨#[]⟩) 1 16 Tryz.underlying37 Tryz.underlying37 hi0 hz0 hz1 hz2 rfl (by decide) (.slice a3 q c3) q (cur.map Value.string) rfl (HOA.out.alloc _) (some ⟨_, 0, none⟩) 1 1 [.string s] rfl rfl (fun _ => ⟨_, rfl, cell_one_at _ _ (by simp)⟩) (by intro u hu; simp at hu; subst hu; rfl) (by omega) (by unfold maxLen; omega) (by omega) (by simp; omega) ?_; intro p9 cap9 w9 hown9 hg9 hat9 hlt9; have HOWN9 := hid hown9; have HG9 := hid ((World.grownBy_alloc _ _ _).trans hg9); clear hown9 hg9 hat9)
      have HB9 : Hid (Below w.heap.size w w9) := hid (HBA.out.grown HG9.out HBA.out.size (fun k hk => (HOA.out.lt k hk).1))
      go_wp2
      go_roundg (gk - 1)
      case rel => exact ⟨q + 1, by omega, by go_num, hid ⟨HB9.out, by rw [HS1.out, List.length_append, List.length_singleton, HQL.out, List.map_append]; exact HOWN9.out⟩⟩
      case measure => omega
    · obtain rfl : q = n := by omega
      have HTA : Hid ((namesL xs).take q = namesL xs) := hid (by rw [← HNL.out, List.take_length])
      have HSN := hid (set_nodup (namesL xs))
      have HSS := hid (sort_set (namesL xs))
      have HSE := hid (fun ys => encStr_str ys)
      have HSL := hid (sortL_enc (namesL xs))
      have HLO := hid (sortL_listOf (namesL xs))
      have HLN := hid (sortL_len (namesL xs))
      have HLS := hid (setOfL_len (namesL xs))
      have HCL := hid (compact_len (sortL (namesL xs)))
      rw [HTA.out] at HST
      unfold NamesP
      rw [HNL.out]
      rw [HNL.out] at HSN HLN HLS
      have HB := hid HST.out.1
      have HOWN := hid HST.out.2
      generalize namesL xs = N at *
      rcases HOWN.out.2 with ⟨e0, h0⟩ | ⟨gb, cap, arr, e1, hbase, hgb, r1, r2, r3, r4⟩
      · obtain ⟨rfl, rfl, rfl⟩ := Value.slice.inj e0
        have hN : N = [] := List.eq_nil_of_length_eq_zero (by rw [HNL.out])
        subst hN
        go_wp2_with fail
        with_reducible refine (lib_SortS0 wr).mono ?_
        rintro e w' ⟨rfl, rfl⟩
        go_wp2_with fail
        with_reducible refine (lib_CloneS0 _).mono ?_
        rintro e w' ⟨rfl, rfl⟩
        go_wp2_with fail
        with_reducible refine (lib_CompactS0 none 0 _).mono ?_
        rintro e w' ⟨rfl, rfl⟩
        go_wp2
        go_ret2
        exact ⟨none, 0, rfl, by rw [show sortL [] = [] from List.eq_nil_of_length_eq_zero (sortL_len [])]; exact World.ownsRow_nil _ _ _ _, HB.out⟩
      · obtain ⟨rfl, -, rfl⟩ := Value.slice.inj e1
        have hzl : (N.map listOf).length = q := by rw [List.length_map]; exact HNL.out
        have hH : Holds encStr wr gb 0 (N.map listOf).toArray := holds_of_block hgb (by rw [hzl, HSE.out]; simpa using r4)
        have hgl : gb < wr.heap.size := (Array.getElem?_eq_some_iff.1 hgb).1
        have cS := lib_SortS gb c3 (N.map listOf) wr hH hgl (by rw [hzl]; omega)
        rw [hzl] at cS
        go_wp2_with fail
        with_reducible refine cS.mono ?_
        clear cS
        rintro e w1 ⟨rfl, n1, os, hw1⟩
        have hown1 := ownsRow_sorted (base := w.heap.size) (n := n1) (os := os) (ss := N.map listOf) (ts := ((N.map listOf).mergeSort fun x y => decide (x ≤ y))) (by simp) hbase hgb (by rw [hzl]; exact r1) r2 r3
        rw [hzl, HSL.out] at hown1
        have hg1 : wr.grownBy w1 (some gb) := by rw [hw1]; exact grownBy_sorted _
        have hown1 : w1.ownsRow w.heap.size 9 1 (.slice (some ⟨gb, 0, none⟩) q c3) q ((sortL N).map Value.string) := by rw [hw1]; exact hown1
        clear hw1
        have HB1 := hid (HB.out.grown hg1 HB.out.size (fun k hk => by cases hk; exact hbase))
        have HOWN1 := hid hown1
        have hq0 : 0 < q ∨ q = 0 := by omega
        have cC := lib_CloneS gb q c3 (sortL N) w1 (by rw [HLN.out]; exact Nat.le_refl _) (by omega) (fun j hj => by
          have h := hown1.cellAt j (by rw [HLN.out] at hj; rw [Nat.mul_one]; exact hj)
          rw [Nat.zero_add, h]
          have : (sortL N).getD j ByteArray.empty = (sortL N)[j] := by simp [List.getD, hj]
          rw [this]
          simp [hj])
        have hgl1 := (hown1.lt gb rfl).2
        clear hown1
        go_wp2_with fail
        with_reducible refine cC.mono ?_
        clear cC
        rintro e w2 ⟨v2, rfl, hown2, hne2, hb2⟩
        rw [show (sortL N).take q = sortL N by rw [← HLN.out, List.take_length]] at hown2
        have HB2 := hid (HB1.out.trans (hb2.mono HB1.out.size))
        have HOWN2 : Hid (w2.ownsRow w.heap.size 9 1 (.slice (some ⟨gb, 0, none⟩) q c3) q ((sortL N).map Value.string)) := hid (own_later HOWN1.out hb2)
        have hsl : ((sortL N).map listOf).length = q := by rw [List.length_map]; exact HLN.out
        rcases hown2.2 with ⟨e2, h2⟩ | ⟨gc, capc, arc, e2, hbc, hgc, s1, s2, s3, s4⟩
        · exact absurd e2 hne2
        · obtain rfl := e2
          have hH2 : Holds encStr w2 gc 0 ((sortL N).map listOf).toArray := holds_of_block hgc (by rw [hsl, HSE.out]; simpa using s4)
          have hlt2 := (hown2.lt gc rfl)
          have hkc := compact_len N
          have HKC : Hid ((Lib.compact ((sortL N).map listOf)).length = (setOfL N).length) := hid (by rw [HLO.out]; exact hkc)
          have cK := lib_CompactS gc capc ((sortL N).map listOf) w2 hH2 (by rw [hsl]; omega) (by rw [hsl]; exact s1)
          rw [hsl] at cK
          clear hown2 hH2 hgc s3 s4 hkc
          go_wp2_with fail
          with_reducible refine cK.mono ?_
          clear cK
          rintro e w3 ⟨rfl, n3, hw3⟩
          have hg3 := grownBy_sorted (w := w2) (g := gc) (n := n3) (os := #[]) (Lib.compact ((sortL N).map listOf) ++ List.replicate (q - (Lib.compact ((sortL N).map listOf)).length) []).toArray
          rw [Go.Sort.grow_empty, ← hw3] at hg3
          clear hw3
          have hgo : gc ≠ gb := by omega
          have HB3 := hid (HB2.out.grown hg3 HB2.out.size (fun k hk => by have := Option.some.inj hk; have := HB1.out.size; omega))
          have HOWN3 : Hid (w3.ownsRow w.heap.size 9 1 (.slice (some ⟨gb, 0, none⟩) q c3) q ((sortL N).map Value.string)) := hid (HOWN2.out.kept hg3 (.inr (by intro e; simp [Value.ownBlock] at e; omega)))
          rw [HKC.out]
          have hlen : (setOfL N).length ≤ q := HLS.out
          have HD : Hid ((((setOfL N).length : Int) == (q : Int)) = decide N.Nodup) := hid (by
            rw [Bool.eq_iff_iff, decide_eq_true_iff, ← HSN.out, beq_iff_eq]
            omega)
          have HD2 : Hid (decide (((setOfL N).length : Int) = (q : Int)) = decide N.Nodup) := hid (by
            have h1 := HSN.out
            rw [Bool.eq_iff_iff, decide_eq_true_iff, decide_eq_true_iff, ← h1]
            omega)
          have HD3 : Hid (decide ((setOfL N).length = q) = decide N.Nodup) := hid (by
            have h1 := HSN.out
            rw [Bool.eq_iff_iff, decide_eq_true_iff, decide_eq_true_iff, ← h1])
          generalize (setOfL N).length = sl at *
          go_wp2
          go_ret2
          exact ⟨some ⟨gb, 0, none⟩, c3, by rw [HNL.out, ← HD.out]; rfl, by rw [HNL.out]; exact HOWN3.out, HB3.out⟩

end Go.Proofs.YtfcccldofaleoaaGreatDoor
